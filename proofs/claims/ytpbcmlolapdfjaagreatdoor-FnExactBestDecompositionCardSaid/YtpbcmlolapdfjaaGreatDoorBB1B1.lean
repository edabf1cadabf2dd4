/-
  BB1B1: a part of a proof of this seat: the value-level semantics of Go code without maps, its walk rules, the frame of a row, facts of types, schedules, walks, plain lemmas (Facts1 Sched1 H0 HP1 HP2 H1 HP3 P1 P1b Q1 Q2 Q3 D1 D2 D3 W1 W3 Y1 Y2 Y3 Y4 Y5 Y6 Y7 QA QC). It holds of every program and state that its hypotheses name.
-/
import Derived.Test.YtpbcmlolapdfjaaGreatDoorBB1A5
import Derived.Test.YtpbcmlolapdfjaaGreatDoorProg
import Derived.KernelRfl
set_option linter.unusedSimpArgs false
set_option linter.unusedVariables false
set_option linter.unnecessarySimpa false
namespace Go.Proofs.YtpbcmlolapdfjaaGreatDoor
open Go.Vs Go.Proofs

theorem gcs0 : gcs Tryz.prog 0 = [1, 1] := by kernel_rfl
theorem gis0 : ((gdat Tryz.prog).lookup 0).isSome = true := by kernel_rfl
theorem tsz3 : tsz Tryz.prog 3 = some 1 := by kernel_rfl
theorem tsz4 : tsz Tryz.prog 4 = some 1 := by kernel_rfl
theorem tsz9 : tsz Tryz.prog 9 = some 1 := by kernel_rfl
theorem tsz22 : tsz Tryz.prog 22 = some 1 := by kernel_rfl
theorem tsz23 : tsz Tryz.prog 23 = some 1 := by kernel_rfl
theorem tsz25 : tsz Tryz.prog 25 = some 3 := by kernel_rfl
theorem tsz27 : tsz Tryz.prog 27 = some 1 := by kernel_rfl
theorem tsz29 : tsz Tryz.prog 29 = some 2 := by kernel_rfl
theorem tsz31 : tsz Tryz.prog 31 = some 2 := by kernel_rfl
theorem tsz34 : tsz Tryz.prog 34 = some 1 := by kernel_rfl
theorem tsz36 : tsz Tryz.prog 36 = some 3 := by kernel_rfl
theorem tsz47 : tsz Tryz.prog 47 = some 1 := by kernel_rfl
theorem tsz63 : tsz Tryz.prog 63 = some 2 := by kernel_rfl
theorem tsz71 : tsz Tryz.prog 71 = some 2 := by kernel_rfl
theorem tsz85 : tsz Tryz.prog 85 = some 1 := by kernel_rfl
theorem tsz87 : tsz Tryz.prog 87 = some 3 := by kernel_rfl
theorem tsz110 : tsz Tryz.prog 110 = some 1 := by kernel_rfl
theorem tagg3 : tagg Tryz.prog 3 = some false := by kernel_rfl
theorem tagg4 : tagg Tryz.prog 4 = some false := by kernel_rfl
theorem tagg9 : tagg Tryz.prog 9 = some false := by kernel_rfl
theorem tagg22 : tagg Tryz.prog 22 = some false := by kernel_rfl
theorem tagg23 : tagg Tryz.prog 23 = some false := by kernel_rfl
theorem tagg25 : tagg Tryz.prog 25 = some true := by kernel_rfl
theorem tagg27 : tagg Tryz.prog 27 = some false := by kernel_rfl
theorem tagg29 : tagg Tryz.prog 29 = some true := by kernel_rfl
theorem tagg31 : tagg Tryz.prog 31 = some true := by kernel_rfl
theorem tagg34 : tagg Tryz.prog 34 = some false := by kernel_rfl
theorem tagg36 : tagg Tryz.prog 36 = some true := by kernel_rfl
theorem tagg47 : tagg Tryz.prog 47 = some false := by kernel_rfl
theorem tagg63 : tagg Tryz.prog 63 = some true := by kernel_rfl
theorem tagg71 : tagg Tryz.prog 71 = some true := by kernel_rfl
theorem tagg85 : tagg Tryz.prog 85 = some false := by kernel_rfl
theorem tagg87 : tagg Tryz.prog 87 = some true := by kernel_rfl
theorem tagg110 : tagg Tryz.prog 110 = some false := by kernel_rfl
theorem tzero3 : tzero Tryz.prog 3 = some [.int .i64 0] := by kernel_rfl
theorem tzero4 : tzero Tryz.prog 4 = some [.bool false] := by kernel_rfl
theorem tzero23 : tzero Tryz.prog 23 = some [.sl none none []] := by kernel_rfl
theorem tzero29 : tzero Tryz.prog 29 = some [.sl none none [], .sl none none []] := by kernel_rfl
theorem tzero31 : tzero Tryz.prog 31 = some [.int .i64 0, .int .i64 0] := by kernel_rfl
theorem tzero36 : tzero Tryz.prog 36 = some [.int .i64 0, .sl none none [], .sl none none []] := by kernel_rfl
theorem tzero47 : tzero Tryz.prog 47 = some [.sl none none []] := by kernel_rfl
theorem tzero71 : tzero Tryz.prog 71 = some [.str [], .sl none none []] := by kernel_rfl
theorem tzero85 : tzero Tryz.prog 85 = some [.sl none none []] := by kernel_rfl
theorem tzero87 : tzero Tryz.prog 87 = some [.sl none none [], .sl none none [], .sl none none []] := by kernel_rfl
theorem tzeroN110 : (tzero Tryz.prog 110).isSome = false := by kernel_rfl
theorem zfn110 : zfn Tryz.prog 110 = true := by kernel_rfl
theorem tslice22 : tslice Tryz.prog 22 = some (63, 2, 40) := by kernel_rfl
theorem telem22 : telem Tryz.prog 22 = some 63 := by kernel_rfl
theorem tslice23 : tslice Tryz.prog 23 = some (3, 1, 8) := by kernel_rfl
theorem telem23 : telem Tryz.prog 23 = some 3 := by kernel_rfl
theorem tslice27 : tslice Tryz.prog 27 = some (23, 1, 24) := by kernel_rfl
theorem telem27 : telem Tryz.prog 27 = some 23 := by kernel_rfl
theorem tslice34 : tslice Tryz.prog 34 = some (71, 2, 40) := by kernel_rfl
theorem telem34 : telem Tryz.prog 34 = some 71 := by kernel_rfl
theorem tslice47 : tslice Tryz.prog 47 = some (31, 2, 16) := by kernel_rfl
theorem telem47 : telem Tryz.prog 47 = some 31 := by kernel_rfl
theorem tslice67 : tslice Tryz.prog 67 = some (4, 1, 1) := by kernel_rfl
theorem telem67 : telem Tryz.prog 67 = some 4 := by kernel_rfl
theorem tslice85 : tslice Tryz.prog 85 = some (47, 1, 24) := by kernel_rfl
theorem telem85 : telem Tryz.prog 85 = some 47 := by kernel_rfl
theorem tslice93 : tslice Tryz.prog 93 = some (5, 1, 1) := by kernel_rfl
theorem telem93 : telem Tryz.prog 93 = some 5 := by kernel_rfl
theorem tstr9 : tstr Tryz.prog 9 = some true := by kernel_rfl
theorem tstr22 : tstr Tryz.prog 22 = some false := by kernel_rfl
theorem tstr23 : tstr Tryz.prog 23 = some false := by kernel_rfl
theorem tstr27 : tstr Tryz.prog 27 = some false := by kernel_rfl
theorem tstr34 : tstr Tryz.prog 34 = some false := by kernel_rfl
theorem tstr47 : tstr Tryz.prog 47 = some false := by kernel_rfl
theorem tstr67 : tstr Tryz.prog 67 = some false := by kernel_rfl
theorem tstr85 : tstr Tryz.prog 85 = some false := by kernel_rfl
theorem tfld29 : tfld Tryz.prog 29 = true := by kernel_rfl
theorem tfld31 : tfld Tryz.prog 31 = true := by kernel_rfl
theorem tfld36 : tfld Tryz.prog 36 = true := by kernel_rfl
theorem tfld71 : tfld Tryz.prog 71 = true := by kernel_rfl
theorem tfld87 : tfld Tryz.prog 87 = true := by kernel_rfl
theorem foff25_0 : foff Tryz.prog 25 0 = some (0, 1) := by kernel_rfl
theorem foff25_1 : foff Tryz.prog 25 1 = some (1, 1) := by kernel_rfl
theorem foff25_2 : foff Tryz.prog 25 2 = some (2, 1) := by kernel_rfl
theorem foff29_0 : foff Tryz.prog 29 0 = some (0, 1) := by kernel_rfl
theorem foff29_1 : foff Tryz.prog 29 1 = some (1, 1) := by kernel_rfl
theorem foff31_0 : foff Tryz.prog 31 0 = some (0, 1) := by kernel_rfl
theorem foff31_1 : foff Tryz.prog 31 1 = some (1, 1) := by kernel_rfl
theorem foff36_0 : foff Tryz.prog 36 0 = some (0, 1) := by kernel_rfl
theorem foff36_1 : foff Tryz.prog 36 1 = some (1, 1) := by kernel_rfl
theorem foff36_2 : foff Tryz.prog 36 2 = some (2, 1) := by kernel_rfl
theorem foff63_0 : foff Tryz.prog 63 0 = some (0, 1) := by kernel_rfl
theorem foff63_1 : foff Tryz.prog 63 1 = some (1, 1) := by kernel_rfl
theorem foff71_0 : foff Tryz.prog 71 0 = some (0, 1) := by kernel_rfl
theorem foff71_1 : foff Tryz.prog 71 1 = some (1, 1) := by kernel_rfl
theorem foff87_0 : foff Tryz.prog 87 0 = some (0, 1) := by kernel_rfl
theorem foff87_1 : foff Tryz.prog 87 1 = some (1, 1) := by kernel_rfl
theorem foff87_2 : foff Tryz.prog 87 2 = some (2, 1) := by kernel_rfl
theorem teqk31 : tEqK Tryz.prog 31 = some [.int, .int] := by kernel_rfl
attribute [simp] gcs0 gis0 tsz3 tsz4 tsz9 tsz22 tsz23 tsz25 tsz27 tsz29 tsz31 tsz34 tsz36 tsz47 tsz63 tsz71 tsz85 tsz87 tsz110 tagg3 tagg4 tagg9 tagg22 tagg23 tagg25 tagg27 tagg29 tagg31 tagg34 tagg36 tagg47 tagg63 tagg71 tagg85 tagg87 tagg110 tzero3 tzero4 tzero23 tzero29 tzero31 tzero36 tzero47 tzero71 tzero85 tzero87 tzeroN110 zfn110 tslice22 telem22 tslice23 telem23 tslice27 telem27 tslice34 telem34 tslice47 telem47 tslice67 telem67 tslice85 telem85 tslice93 telem93 tstr9 tstr22 tstr23 tstr27 tstr34 tstr47 tstr67 tstr85 tfld29 tfld31 tfld36 tfld71 tfld87 foff25_0 foff25_1 foff25_2 foff29_0 foff29_1 foff31_0 foff31_1 foff36_0 foff36_1 foff36_2 foff63_0 foff63_1 foff71_0 foff71_1 foff87_0 foff87_1 foff87_2 teqk31
end Go.Proofs.YtpbcmlolapdfjaaGreatDoor


namespace Go.Proofs.YtpbcmlolapdfjaaGreatDoor
open Go.Vs Go.Proofs Go

/-- the functions that write what they are handed -/
def E : Md := ⟨fun f => [11, 12, 18, 29, 30, 31, 106, 110].contains f, false⟩
/-- as E; slices are known by elements only -/
def EP : Md := ⟨E.e, true⟩
@[simp] theorem E_p : E.p = false := Eq.trans rfl rfl
@[simp] theorem EP_p : EP.p = true := Eq.trans rfl rfl

theorem E11 : E 11 = true := rfl
theorem E12 : E 12 = true := rfl
theorem E18 : E 18 = true := rfl
theorem E29 : E 29 = true := rfl
theorem E30 : E 30 = true := rfl
theorem E31 : E 31 = true := rfl
theorem E106 : E 106 = true := rfl
theorem E110 : E 110 = true := rfl
/-- the orders of laws.FnExactBestDecomposition -/
def s3 (i : Nat) : Tr := if i = 10 then .seq [0, 1, 2, 3, 4] .nil else .nil
theorem s3_10 : s3 10 = .seq [0, 1, 2, 3, 4] .nil := rfl
theorem s3_ok : okCode E 120 s3 (Tryz.f3.body.getD .skip) = true := by kernel_rfl
/-- the orders of laws.szQuery -/
def s4 (_ : Nat) : Tr := .nil
theorem s4_ok : okCode E 18 s4 (Tryz.f4.body.getD .skip) = true := by kernel_rfl
/-- the orders of spec.BestDecomposition -/
def s5 (i : Nat) : Tr := if i = 9 then .seq [0, 1, 2, 3, 4] (.both (.seq [5, 6, 7, 8, 9, 10, 11] .nil) (.seq [9, 5, 6, 7, 8, 10, 11] .nil)) else if i = 15 then .seq [0, 2] (.both (.seq [1, 3, 4, 5] .nil) (.seq [3, 1, 4, 5] .nil)) else .nil
theorem s5_9 : s5 9 = .seq [0, 1, 2, 3, 4] (.both (.seq [5, 6, 7, 8, 9, 10, 11] .nil) (.seq [9, 5, 6, 7, 8, 10, 11] .nil)) := rfl
theorem s5_15 : s5 15 = .seq [0, 2] (.both (.seq [1, 3, 4, 5] .nil) (.seq [3, 1, 4, 5] .nil)) := rfl
theorem s5_ok : okCode E 58 s5 (Tryz.f5.body.getD .skip) = true := by kernel_rfl
/-- the orders of laws.toQuery -/
def s6 (_ : Nat) : Tr := .nil
theorem s6_ok : okCode E 16 s6 (Tryz.f6.body.getD .skip) = true := by kernel_rfl
/-- the orders of impl.BestDecomposition -/
def s7 (i : Nat) : Tr := if i = 10 then .seq [0] (.both (.seq [1, 2, 3, 4] .nil) (.seq [2, 1, 3, 4] .nil)) else if i = 12 then .seq [0, 2] (.both (.seq [1, 3, 4, 5] .nil) (.seq [3, 1, 4, 5] .nil)) else .nil
theorem s7_10 : s7 10 = .seq [0] (.both (.seq [1, 2, 3, 4] .nil) (.seq [2, 1, 3, 4] .nil)) := rfl
theorem s7_12 : s7 12 = .seq [0, 2] (.both (.seq [1, 3, 4, 5] .nil) (.seq [3, 1, 4, 5] .nil)) := rfl
theorem s7_ok : okCode E 47 s7 (Tryz.f7.body.getD .skip) = true := by kernel_rfl
/-- the orders of laws.eqDecomposition -/
def s8 (_ : Nat) : Tr := .nil
theorem s8_ok : okCode E 17 s8 (Tryz.f8.body.getD .skip) = true := by kernel_rfl
/-- the orders of laws.eqRational -/
def s9 (_ : Nat) : Tr := .nil
theorem s9_ok : okCode E 15 s9 (Tryz.f9.body.getD .skip) = true := by kernel_rfl
/-- the orders of laws.eqQuery -/
def s10 (_ : Nat) : Tr := .nil
theorem s10_ok : okCode E 22 s10 (Tryz.f10.body.getD .skip) = true := by kernel_rfl
/-- the orders of laws.markQuery -/
def s11 (_ : Nat) : Tr := .nil
theorem s11_ok : okCode E 14 s11 (Tryz.f11.body.getD .skip) = true := by kernel_rfl
/-- the orders of laws.markDecomposition -/
def s12 (_ : Nat) : Tr := .nil
theorem s12_ok : okCode E 14 s12 (Tryz.f12.body.getD .skip) = true := by kernel_rfl
/-- the orders of laws.heldDecomposition -/
def s13 (_ : Nat) : Tr := .nil
theorem s13_ok : okCode E 18 s13 (Tryz.f13.body.getD .skip) = true := by kernel_rfl
/-- the orders of laws.szAtomS -/
def s14 (_ : Nat) : Tr := .nil
theorem s14_ok : okCode E 27 s14 (Tryz.f14.body.getD .skip) = true := by kernel_rfl
/-- the orders of laws.szIntS -/
def s15 (_ : Nat) : Tr := .nil
theorem s15_ok : okCode E 12 s15 (Tryz.f15.body.getD .skip) = true := by kernel_rfl
/-- the orders of spec.AllOrders -/
def s16 (_ : Nat) : Tr := .nil
theorem s16_ok : okCode E 10 s16 (Tryz.f16.body.getD .skip) = true := by kernel_rfl
/-- the orders of spec.DecompositionFromOrder -/
def s17 (i : Nat) : Tr := if i = 31 then .seq [0, 1, 2, 3, 4, 5, 6, 7, 8, 9, 10, 11, 12, 13, 14, 15, 16, 17, 18, 19, 20, 21, 22, 23, 24, 25, 26, 27, 28, 29, 30, 31, 32] .nil else .nil
theorem s17_31 : s17 31 = .seq [0, 1, 2, 3, 4, 5, 6, 7, 8, 9, 10, 11, 12, 13, 14, 15, 16, 17, 18, 19, 20, 21, 22, 23, 24, 25, 26, 27, 28, 29, 30, 31, 32] .nil := rfl
theorem s17_ok : okCode E 150 s17 (Tryz.f17.body.getD .skip) = true := by kernel_rfl
/-- the orders of spec.l30Width -/
def s18 (i : Nat) : Tr := if i = 11 then .seq [0, 1, 2, 3, 4, 5] (.both (.seq [6, 7, 8, 9, 10, 11, 12] .nil) (.seq [10, 6, 7, 8, 9, 11, 12] .nil)) else if i = 15 then .seq [0, 1, 2, 3, 4, 5, 6] .nil else .nil
theorem s18_11 : s18 11 = .seq [0, 1, 2, 3, 4, 5] (.both (.seq [6, 7, 8, 9, 10, 11, 12] .nil) (.seq [10, 6, 7, 8, 9, 11, 12] .nil)) := rfl
theorem s18_15 : s18 15 = .seq [0, 1, 2, 3, 4, 5, 6] .nil := rfl
theorem s18_ok : okCode E 78 s18 (Tryz.f18.body.getD .skip) = true := by kernel_rfl
/-- the orders of spec.CompareRationals -/
def s19 (_ : Nat) : Tr := .nil
theorem s19_ok : okCode E 31 s19 (Tryz.f19.body.getD .skip) = true := by kernel_rfl
/-- the orders of laws.toAtomS -/
def s20 (_ : Nat) : Tr := .nil
theorem s20_ok : okCode E 23 s20 (Tryz.f20.body.getD .skip) = true := by kernel_rfl
/-- the orders of laws.toIntS -/
def s21 (_ : Nat) : Tr := .nil
theorem s21_ok : okCode E 22 s21 (Tryz.f21.body.getD .skip) = true := by kernel_rfl
/-- the orders of impl.AllOrders -/
def s22 (_ : Nat) : Tr := .nil
theorem s22_ok : okCode E 47 s22 (Tryz.f22.body.getD .skip) = true := by kernel_rfl
/-- the orders of impl.DecompositionFromOrder -/
def s23 (i : Nat) : Tr := if i = 14 then .seq [0, 1, 2, 3, 4, 5, 6, 7, 8, 9] .nil else if i = 15 then .seq [0, 1, 2, 4, 3, 5, 6, 7, 8, 9] .nil else .nil
theorem s23_14 : s23 14 = .seq [0, 1, 2, 3, 4, 5, 6, 7, 8, 9] .nil := rfl
theorem s23_15 : s23 15 = .seq [0, 1, 2, 4, 3, 5, 6, 7, 8, 9] .nil := rfl
theorem s23_ok : okCode E 109 s23 (Tryz.f23.body.getD .skip) = true := by kernel_rfl
/-- the orders of impl.DecompositionWidth -/
def s24 (_ : Nat) : Tr := .nil
theorem s24_ok : okCode E 41 s24 (Tryz.f24.body.getD .skip) = true := by kernel_rfl
/-- the orders of impl.CompareRationals -/
def s25 (_ : Nat) : Tr := .nil
theorem s25_ok : okCode E 20 s25 (Tryz.f25.body.getD .skip) = true := by kernel_rfl
/-- the orders of laws.eqIntSS -/
def s26 (i : Nat) : Tr := if i = 6 then .seq [0, 1, 2, 3, 4, 5, 6, 7, 8, 9] .nil else .nil
theorem s26_6 : s26 6 = .seq [0, 1, 2, 3, 4, 5, 6, 7, 8, 9] .nil := rfl
theorem s26_ok : okCode E 27 s26 (Tryz.f26.body.getD .skip) = true := by kernel_rfl
/-- the orders of laws.eqIntS -/
def s27 (i : Nat) : Tr := if i = 6 then .seq [0, 1, 2, 3, 4, 5, 6, 7, 8] .nil else .nil
theorem s27_6 : s27 6 = .seq [0, 1, 2, 3, 4, 5, 6, 7, 8] .nil := rfl
theorem s27_ok : okCode E 26 s27 (Tryz.f27.body.getD .skip) = true := by kernel_rfl
/-- the orders of laws.eqAtomS -/
def s28 (i : Nat) : Tr := if i = 6 then .seq [0, 1, 2, 3, 4, 5, 6, 7, 8, 9] .nil else .nil
theorem s28_6 : s28 6 = .seq [0, 1, 2, 3, 4, 5, 6, 7, 8, 9] .nil := rfl
theorem s28_ok : okCode E 27 s28 (Tryz.f28.body.getD .skip) = true := by kernel_rfl
/-- the orders of laws.markAtomS -/
def s29 (_ : Nat) : Tr := .nil
theorem s29_ok : okCode E 28 s29 (Tryz.f29.body.getD .skip) = true := by kernel_rfl
/-- the orders of laws.markIntS -/
def s30 (_ : Nat) : Tr := .nil
theorem s30_ok : okCode E 19 s30 (Tryz.f30.body.getD .skip) = true := by kernel_rfl
/-- the orders of laws.markIntSS -/
def s31 (_ : Nat) : Tr := .nil
theorem s31_ok : okCode E 19 s31 (Tryz.f31.body.getD .skip) = true := by kernel_rfl
/-- the orders of laws.heldIntSS -/
def s32 (_ : Nat) : Tr := .nil
theorem s32_ok : okCode E 21 s32 (Tryz.f32.body.getD .skip) = true := by kernel_rfl
/-- the orders of laws.heldIntS -/
def s33 (_ : Nat) : Tr := .nil
theorem s33_ok : okCode E 21 s33 (Tryz.f33.body.getD .skip) = true := by kernel_rfl
/-- the orders of laws.szAtom -/
def s34 (_ : Nat) : Tr := .nil
theorem s34_ok : okCode E 19 s34 (Tryz.f34.body.getD .skip) = true := by kernel_rfl
/-- the orders of spec.IsValidQuery -/
def s35 (i : Nat) : Tr := if i = 11 then .seq [0, 1, 2, 3, 4, 5, 6, 7, 8, 9, 10, 11, 12, 13] .nil else if i = 26 then .seq [0, 1, 2, 3, 4, 5, 6, 7, 8, 9, 10, 11, 12, 13, 14, 15, 16, 17, 18, 19, 20, 21, 22] .nil else .nil
theorem s35_11 : s35 11 = .seq [0, 1, 2, 3, 4, 5, 6, 7, 8, 9, 10, 11, 12, 13] .nil := rfl
theorem s35_26 : s35 26 = .seq [0, 1, 2, 3, 4, 5, 6, 7, 8, 9, 10, 11, 12, 13, 14, 15, 16, 17, 18, 19, 20, 21, 22] .nil := rfl
theorem s35_ok : okCode E 134 s35 (Tryz.f35.body.getD .skip) = true := by kernel_rfl
/-- the orders of spec.l19More -/
def s36 (i : Nat) : Tr := if i = 8 then .seq [0, 1, 3, 5] (.both (.seq [2] (.both (.app 4 [2] (.seq [6] (.app 7 [2] (.seq [8, 9, 10] .nil)))) (.seq [6] (.app 4 [2] (.app 7 [2] (.seq [8, 9, 10] .nil)))))) (.seq [6, 2] (.app 4 [2] (.app 7 [2] (.seq [8, 9, 10] .nil))))) else .nil
theorem s36_8 : s36 8 = .seq [0, 1, 3, 5] (.both (.seq [2] (.both (.app 4 [2] (.seq [6] (.app 7 [2] (.seq [8, 9, 10] .nil)))) (.seq [6] (.app 4 [2] (.app 7 [2] (.seq [8, 9, 10] .nil)))))) (.seq [6, 2] (.app 4 [2] (.app 7 [2] (.seq [8, 9, 10] .nil))))) := rfl
theorem s36_ok : okCode E 38 s36 (Tryz.f36.body.getD .skip) = true := by kernel_rfl
/-- the orders of spec.IsValidOrder -/
def s37 (_ : Nat) : Tr := .nil
theorem s37_ok : okCode E 18 s37 (Tryz.f37.body.getD .skip) = true := by kernel_rfl
/-- the orders of spec.l30Joined -/
def s38 (_ : Nat) : Tr := .nil
theorem s38_ok : okCode E 39 s38 (Tryz.f38.body.getD .skip) = true := by kernel_rfl
/-- the orders of spec.l7Find -/
def s39 (_ : Nat) : Tr := .nil
theorem s39_ok : okCode E 19 s39 (Tryz.f39.body.getD .skip) = true := by kernel_rfl
/-- the orders of spec.BagCoverWidth -/
def s40 (i : Nat) : Tr := if i = 12 then .seq [0, 1, 2, 3, 4, 5, 6, 7, 8, 9] .nil else .nil
theorem s40_12 : s40 12 = .seq [0, 1, 2, 3, 4, 5, 6, 7, 8, 9] .nil := rfl
theorem s40_ok : okCode E 88 s40 (Tryz.f40.body.getD .skip) = true := by kernel_rfl
/-- the orders of spec.IsValidRational -/
def s41 (_ : Nat) : Tr := .nil
theorem s41_ok : okCode E 23 s41 (Tryz.f41.body.getD .skip) = true := by kernel_rfl
/-- the orders of laws.toAtom -/
def s42 (_ : Nat) : Tr := .nil
theorem s42_ok : okCode E 12 s42 (Tryz.f42.body.getD .skip) = true := by kernel_rfl
/-- the orders of impl.IsValidQuery -/
def s43 (_ : Nat) : Tr := .nil
theorem s43_ok : okCode E 76 s43 (Tryz.f43.body.getD .skip) = true := by kernel_rfl
/-- the orders of impl.hasInt -/
def s44 (_ : Nat) : Tr := .nil
theorem s44_ok : okCode E 9 s44 (Tryz.f44.body.getD .skip) = true := by kernel_rfl
/-- the orders of impl.copyInts -/
def s45 (_ : Nat) : Tr := .nil
theorem s45_ok : okCode E 6 s45 (Tryz.f45.body.getD .skip) = true := by kernel_rfl
/-- the orders of impl.IsValidOrder -/
def s46 (_ : Nat) : Tr := .nil
theorem s46_ok : okCode E 20 s46 (Tryz.f46.body.getD .skip) = true := by kernel_rfl
/-- the orders of impl.Neighbors -/
def s47 (_ : Nat) : Tr := .nil
theorem s47_ok : okCode E 29 s47 (Tryz.f47.body.getD .skip) = true := by kernel_rfl
/-- the orders of impl.common -/
def s48 (_ : Nat) : Tr := .nil
theorem s48_ok : okCode E 23 s48 (Tryz.f48.body.getD .skip) = true := by kernel_rfl
/-- the orders of impl.unite -/
def s49 (i : Nat) : Tr := if i = 9 then .seq [0, 1, 2, 4, 7, 8, 9] (.both (.seq [3, 5, 6, 10, 11] .nil) (.seq [5, 3, 6, 10, 11] .nil)) else .nil
theorem s49_9 : s49 9 = .seq [0, 1, 2, 4, 7, 8, 9] (.both (.seq [3, 5, 6, 10, 11] .nil) (.seq [5, 3, 6, 10, 11] .nil)) := rfl
theorem s49_ok : okCode E 56 s49 (Tryz.f49.body.getD .skip) = true := by kernel_rfl
/-- the orders of impl.without -/
def s50 (_ : Nat) : Tr := .nil
theorem s50_ok : okCode E 23 s50 (Tryz.f50.body.getD .skip) = true := by kernel_rfl
/-- the orders of impl.IsValidDecomposition -/
def s51 (i : Nat) : Tr := if i = 17 then .seq [0, 1, 2, 4, 7, 3, 5, 6, 8, 9, 10, 11, 12] .nil else .nil
theorem s51_17 : s51 17 = .seq [0, 1, 2, 4, 7, 3, 5, 6, 8, 9, 10, 11, 12] .nil := rfl
theorem s51_ok : okCode E 88 s51 (Tryz.f51.body.getD .skip) = true := by kernel_rfl
/-- the orders of impl.BagCoverWidth -/
def s52 (_ : Nat) : Tr := .nil
theorem s52_ok : okCode E 29 s52 (Tryz.f52.body.getD .skip) = true := by kernel_rfl
/-- the orders of impl.bothValid -/
def s53 (_ : Nat) : Tr := .nil
theorem s53_ok : okCode E 11 s53 (Tryz.f53.body.getD .skip) = true := by kernel_rfl
/-- the orders of impl.compareInts -/
def s54 (_ : Nat) : Tr := .nil
theorem s54_ok : okCode E 13 s54 (Tryz.f54.body.getD .skip) = true := by kernel_rfl
/-- the orders of laws.eqAtom -/
def s55 (_ : Nat) : Tr := .nil
theorem s55_ok : okCode E 16 s55 (Tryz.f55.body.getD .skip) = true := by kernel_rfl
/-- the orders of laws.markText -/
def s56 (_ : Nat) : Tr := .nil
theorem s56_ok : okCode E 20 s56 (Tryz.f56.body.getD .skip) = true := by kernel_rfl
/-- the orders of spec.l1In -/
def s57 (_ : Nat) : Tr := .nil
theorem s57_ok : okCode E 15 s57 (Tryz.f57.body.getD .skip) = true := by kernel_rfl
/-- the orders of spec.IsValidName -/
def s58 (_ : Nat) : Tr := .nil
theorem s58_ok : okCode E 23 s58 (Tryz.f58.body.getD .skip) = true := by kernel_rfl
/-- the orders of spec.ContainsVariable -/
def s59 (_ : Nat) : Tr := .nil
theorem s59_ok : okCode E 20 s59 (Tryz.f59.body.getD .skip) = true := by kernel_rfl
/-- the orders of spec.IsPermutation -/
def s60 (i : Nat) : Tr := if i = 4 then .seq [0, 1, 2, 3, 4, 5, 6, 7, 8, 9, 10, 11, 12, 13, 14, 15, 16, 17, 18, 19] .nil else .nil
theorem s60_4 : s60 4 = .seq [0, 1, 2, 3, 4, 5, 6, 7, 8, 9, 10, 11, 12, 13, 14, 15, 16, 17, 18, 19] .nil := rfl
theorem s60_ok : okCode E 33 s60 (Tryz.f60.body.getD .skip) = true := by kernel_rfl
/-- the orders of spec.Neighbors -/
def s61 (_ : Nat) : Tr := .nil
theorem s61_ok : okCode E 57 s61 (Tryz.f61.body.getD .skip) = true := by kernel_rfl
/-- the orders of spec.l30Bag -/
def s62 (i : Nat) : Tr := if i = 4 then .seq [0, 1, 2, 3, 4, 5, 6, 7, 8, 9, 10, 11, 12, 13, 14, 15, 16, 17, 18, 19, 20, 21, 22, 23, 24] .nil else .nil
theorem s62_4 : s62 4 = .seq [0, 1, 2, 3, 4, 5, 6, 7, 8, 9, 10, 11, 12, 13, 14, 15, 16, 17, 18, 19, 20, 21, 22, 23, 24] .nil := rfl
theorem s62_ok : okCode E 40 s62 (Tryz.f62.body.getD .skip) = true := by kernel_rfl
/-- the orders of spec.Minimize -/
def s63 (i : Nat) : Tr := if i = 4 then .seq [0, 1, 2, 3, 4, 5] .nil else .nil
theorem s63_4 : s63 4 = .seq [0, 1, 2, 3, 4, 5] .nil := rfl
theorem s63_ok : okCode E 28 s63 (Tryz.f63.body.getD .skip) = true := by kernel_rfl
/-- the orders of spec.l2Gcd -/
def s64 (_ : Nat) : Tr := .nil
theorem s64_ok : okCode E 14 s64 (Tryz.f64.body.getD .skip) = true := by kernel_rfl
/-- the orders of impl.within -/
def s65 (_ : Nat) : Tr := .nil
theorem s65_ok : okCode E 15 s65 (Tryz.f65.body.getD .skip) = true := by kernel_rfl
/-- the orders of impl.isSetOf -/
def s66 (_ : Nat) : Tr := .nil
theorem s66_ok : okCode E 27 s66 (Tryz.f66.body.getD .skip) = true := by kernel_rfl
/-- the orders of impl.IsValidName -/
def s67 (_ : Nat) : Tr := .nil
theorem s67_ok : okCode E 5 s67 (Tryz.f67.body.getD .skip) = true := by kernel_rfl
/-- the orders of impl.indexOf -/
def s68 (_ : Nat) : Tr := .nil
theorem s68_ok : okCode E 19 s68 (Tryz.f68.body.getD .skip) = true := by kernel_rfl
/-- the orders of impl.ContainsVariable -/
def s69 (_ : Nat) : Tr := .nil
theorem s69_ok : okCode E 9 s69 (Tryz.f69.body.getD .skip) = true := by kernel_rfl
/-- the orders of impl.AtomVariables -/
def s70 (_ : Nat) : Tr := .nil
theorem s70_ok : okCode E 17 s70 (Tryz.f70.body.getD .skip) = true := by kernel_rfl
/-- the orders of impl.isTree -/
def s71 (_ : Nat) : Tr := .nil
theorem s71_ok : okCode E 51 s71 (Tryz.f71.body.getD .skip) = true := by kernel_rfl
/-- the orders of impl.isBag -/
def s72 (_ : Nat) : Tr := .nil
theorem s72_ok : okCode E 18 s72 (Tryz.f72.body.getD .skip) = true := by kernel_rfl
/-- the orders of impl.topsOf -/
def s73 (_ : Nat) : Tr := .nil
theorem s73_ok : okCode E 43 s73 (Tryz.f73.body.getD .skip) = true := by kernel_rfl
/-- the orders of impl.Minimize -/
def s74 (_ : Nat) : Tr := .nil
theorem s74_ok : okCode E 28 s74 (Tryz.f74.body.getD .skip) = true := by kernel_rfl
/-- the orders of impl.coverOf -/
def s75 (_ : Nat) : Tr := .nil
theorem s75_ok : okCode E 59 s75 (Tryz.f75.body.getD .skip) = true := by kernel_rfl
/-- the orders of impl.IsValidRational -/
def s76 (i : Nat) : Tr := if i = 1 then .seq [0, 1, 2, 3, 4, 5, 6, 7, 8, 9, 10, 12, 13, 11, 14, 15, 16, 17] .nil else .nil
theorem s76_1 : s76 1 = .seq [0, 1, 2, 3, 4, 5, 6, 7, 8, 9, 10, 12, 13, 11, 14, 15, 16, 17] .nil := rfl
theorem s76_ok : okCode E 20 s76 (Tryz.f76.body.getD .skip) = true := by kernel_rfl
/-- the orders of spec.IsValidLinearProgram -/
def s77 (_ : Nat) : Tr := .nil
theorem s77_ok : okCode E 38 s77 (Tryz.f77.body.getD .skip) = true := by kernel_rfl
/-- the orders of spec.l14Plus -/
def s78 (_ : Nat) : Tr := .nil
theorem s78_ok : okCode E 16 s78 (Tryz.f78.body.getD .skip) = true := by kernel_rfl
/-- the orders of spec.l14Best -/
def s79 (i : Nat) : Tr := if i = 8 then .seq [0, 1, 2, 3, 4, 5] (.both (.seq [6, 7, 8, 9, 10, 11, 12] .nil) (.seq [10, 6, 7, 8, 9, 11, 12] .nil)) else if i = 13 then .seq [0, 1, 2, 3, 4, 5] .nil else .nil
theorem s79_8 : s79 8 = .seq [0, 1, 2, 3, 4, 5] (.both (.seq [6, 7, 8, 9, 10, 11, 12] .nil) (.seq [10, 6, 7, 8, 9, 11, 12] .nil)) := rfl
theorem s79_13 : s79 13 = .seq [0, 1, 2, 3, 4, 5] .nil := rfl
theorem s79_ok : okCode E 56 s79 (Tryz.f79.body.getD .skip) = true := by kernel_rfl
/-- the orders of impl.isLetters -/
def s80 (_ : Nat) : Tr := .nil
theorem s80_ok : okCode E 31 s80 (Tryz.f80.body.getD .skip) = true := by kernel_rfl
/-- the orders of impl.IsStrictlyAscending -/
def s81 (i : Nat) : Tr := if i = 4 then .seq [0, 1, 2, 3, 4, 5, 6, 7, 8, 9] .nil else .nil
theorem s81_4 : s81 4 = .seq [0, 1, 2, 3, 4, 5, 6, 7, 8, 9] .nil := rfl
theorem s81_ok : okCode E 20 s81 (Tryz.f81.body.getD .skip) = true := by kernel_rfl
/-- the orders of impl.IsValidLinearProgram -/
def s82 (_ : Nat) : Tr := .nil
theorem s82_ok : okCode E 57 s82 (Tryz.f82.body.getD .skip) = true := by kernel_rfl
/-- the orders of impl.best -/
def s83 (i : Nat) : Tr := if i = 9 then .seq [0, 1, 2, 3, 4] .nil else if i = 11 then .seq [0, 1, 2, 3, 4, 5] .nil else .nil
theorem s83_9 : s83 9 = .seq [0, 1, 2, 3, 4] .nil := rfl
theorem s83_11 : s83 11 = .seq [0, 1, 2, 3, 4, 5] .nil := rfl
theorem s83_ok : okCode E 48 s83 (Tryz.f83.body.getD .skip) = true := by kernel_rfl
/-- the orders of impl.bit -/
def s84 (_ : Nat) : Tr := .nil
theorem s84_ok : okCode E 4 s84 (Tryz.f84.body.getD .skip) = true := by kernel_rfl
/-- the orders of impl.gcd -/
def s85 (i : Nat) : Tr := if i = 2 then .seq [0, 1, 2, 3, 4, 5] .nil else .nil
theorem s85_2 : s85 2 = .seq [0, 1, 2, 3, 4, 5] .nil := rfl
theorem s85_ok : okCode E 12 s85 (Tryz.f85.body.getD .skip) = true := by kernel_rfl
/-- the orders of impl.abs -/
def s86 (_ : Nat) : Tr := .nil
theorem s86_ok : okCode E 7 s86 (Tryz.f86.body.getD .skip) = true := by kernel_rfl
/-- the orders of spec.l13Square -/
def s87 (_ : Nat) : Tr := .nil
theorem s87_ok : okCode E 40 s87 (Tryz.f87.body.getD .skip) = true := by kernel_rfl
/-- the orders of spec.l14Points -/
def s88 (_ : Nat) : Tr := .nil
theorem s88_ok : okCode E 130 s88 (Tryz.f88.body.getD .skip) = true := by kernel_rfl
/-- the orders of spec.DotProduct -/
def s89 (i : Nat) : Tr := if i = 7 then .seq [0, 1, 2, 3, 4, 5, 6, 7] (.both (.seq [8, 9, 10, 11, 12, 13, 14] .nil) (.seq [12, 8, 9, 10, 11, 13, 14] .nil)) else .nil
theorem s89_7 : s89 7 = .seq [0, 1, 2, 3, 4, 5, 6, 7] (.both (.seq [8, 9, 10, 11, 12, 13, 14] .nil) (.seq [12, 8, 9, 10, 11, 13, 14] .nil)) := rfl
theorem s89_ok : okCode E 48 s89 (Tryz.f89.body.getD .skip) = true := by kernel_rfl
/-- the orders of impl.allValid -/
def s90 (_ : Nat) : Tr := .nil
theorem s90_ok : okCode E 15 s90 (Tryz.f90.body.getD .skip) = true := by kernel_rfl
/-- the orders of impl.vertices -/
def s91 (_ : Nat) : Tr := .nil
theorem s91_ok : okCode E 54 s91 (Tryz.f91.body.getD .skip) = true := by kernel_rfl
/-- the orders of impl.DotProduct -/
def s92 (i : Nat) : Tr := if i = 7 then .seq [0, 1, 2, 3, 4, 5, 6, 7] (.both (.seq [8, 9, 10, 11, 12, 13, 14] .nil) (.seq [12, 8, 9, 10, 11, 13, 14] .nil)) else .nil
theorem s92_7 : s92 7 = .seq [0, 1, 2, 3, 4, 5, 6, 7] (.both (.seq [8, 9, 10, 11, 12, 13, 14] .nil) (.seq [12, 8, 9, 10, 11, 13, 14] .nil)) := rfl
theorem s92_ok : okCode E 52 s92 (Tryz.f92.body.getD .skip) = true := by kernel_rfl
/-- the orders of spec.l14Pick -/
def s93 (_ : Nat) : Tr := .nil
theorem s93_ok : okCode E 47 s93 (Tryz.f93.body.getD .skip) = true := by kernel_rfl
/-- the orders of spec.SolveLinearSystem -/
def s94 (i : Nat) : Tr := if i = 10 then .seq [0, 2, 3, 4, 5, 7, 8, 9, 10] (.both (.seq [1] (.both (.app 6 [50] (.seq [11, 12, 13, 14, 15] .nil)) (.seq [11] (.app 6 [50] (.seq [12, 13, 14, 15] .nil))))) (.seq [11, 1] (.app 6 [50] (.seq [12, 13, 14, 15] .nil)))) else if i = 28 then .seq [0, 1, 2, 3, 4, 5, 6, 7, 8, 9, 10, 11, 12, 13] (.both (.seq [14, 15, 16, 17, 18, 19, 20] .nil) (.seq [18, 14, 15, 16, 17, 19, 20] .nil)) else .nil
theorem s94_10 : s94 10 = .seq [0, 2, 3, 4, 5, 7, 8, 9, 10] (.both (.seq [1] (.both (.app 6 [50] (.seq [11, 12, 13, 14, 15] .nil)) (.seq [11] (.app 6 [50] (.seq [12, 13, 14, 15] .nil))))) (.seq [11, 1] (.app 6 [50] (.seq [12, 13, 14, 15] .nil)))) := rfl
theorem s94_28 : s94 28 = .seq [0, 1, 2, 3, 4, 5, 6, 7, 8, 9, 10, 11, 12, 13] (.both (.seq [14, 15, 16, 17, 18, 19, 20] .nil) (.seq [18, 14, 15, 16, 17, 19, 20] .nil)) := rfl
theorem s94_ok : okCode E 134 s94 (Tryz.f94.body.getD .skip) = true := by kernel_rfl
/-- the orders of spec.l14Side -/
def s95 (i : Nat) : Tr := if i = 12 then .seq [0, 1, 2, 3, 4, 5, 6, 7, 8, 10, 9, 11, 12] .nil else .nil
theorem s95_12 : s95 12 = .seq [0, 1, 2, 3, 4, 5, 6, 7, 8, 10, 9, 11, 12] .nil := rfl
theorem s95_ok : okCode E 69 s95 (Tryz.f95.body.getD .skip) = true := by kernel_rfl
/-- the orders of spec.EqualRationals -/
def s96 (i : Nat) : Tr := if i = 6 then .seq [0, 1, 2, 3, 4, 5, 6, 7, 8] .nil else .nil
theorem s96_6 : s96 6 = .seq [0, 1, 2, 3, 4, 5, 6, 7, 8] .nil := rfl
theorem s96_ok : okCode E 26 s96 (Tryz.f96.body.getD .skip) = true := by kernel_rfl
/-- the orders of spec.MulRational -/
def s97 (_ : Nat) : Tr := .nil
theorem s97_ok : okCode E 33 s97 (Tryz.f97.body.getD .skip) = true := by kernel_rfl
/-- the orders of spec.AddRational -/
def s98 (_ : Nat) : Tr := .nil
theorem s98_ok : okCode E 39 s98 (Tryz.f98.body.getD .skip) = true := by kernel_rfl
/-- the orders of impl.copyRationals -/
def s99 (_ : Nat) : Tr := .nil
theorem s99_ok : okCode E 6 s99 (Tryz.f99.body.getD .skip) = true := by kernel_rfl
/-- the orders of impl.vertices$1 -/
def s100 (i : Nat) : Tr := if i = 4 then .seq [0, 1, 2, 3, 5] (.both (.seq [4, 6] (.app 7 [4] (.seq [8] .nil))) (.seq [6, 4] (.app 7 [4] (.seq [8] .nil)))) else .nil
theorem s100_4 : s100 4 = .seq [0, 1, 2, 3, 5] (.both (.seq [4, 6] (.app 7 [4] (.seq [8] .nil))) (.seq [6, 4] (.app 7 [4] (.seq [8] .nil)))) := rfl
theorem s100_ok : okCode E 90 s100 (Tryz.f100.body.getD .skip) = true := by kernel_rfl
/-- the orders of impl.SolveLinearSystem -/
def s101 (i : Nat) : Tr := if i = 10 then .seq [0, 1, 3, 4, 5, 6] (.both (.seq [2, 7, 8, 9, 10, 11] .nil) (.seq [7, 2, 8, 9, 10, 11] .nil)) else if i = 20 then .seq [0, 1, 2, 3, 4, 5, 6, 7, 8, 9, 10, 11, 12, 13, 14, 15] .nil else if i = 24 then .seq [0, 1, 2, 3, 4, 5, 6, 7, 8, 9, 10, 11, 12, 13, 14, 15, 16, 17, 18, 19, 20, 21, 22, 23, 24, 25, 26] .nil else if i = 30 then .seq [0, 1, 2, 3, 4, 5, 6, 7, 8, 9, 10, 11, 12, 13] (.both (.seq [14, 15, 16, 17, 18, 19, 20] .nil) (.seq [18, 14, 15, 16, 17, 19, 20] .nil)) else .nil
theorem s101_10 : s101 10 = .seq [0, 1, 3, 4, 5, 6] (.both (.seq [2, 7, 8, 9, 10, 11] .nil) (.seq [7, 2, 8, 9, 10, 11] .nil)) := rfl
theorem s101_20 : s101 20 = .seq [0, 1, 2, 3, 4, 5, 6, 7, 8, 9, 10, 11, 12, 13, 14, 15] .nil := rfl
theorem s101_24 : s101 24 = .seq [0, 1, 2, 3, 4, 5, 6, 7, 8, 9, 10, 11, 12, 13, 14, 15, 16, 17, 18, 19, 20, 21, 22, 23, 24, 25, 26] .nil := rfl
theorem s101_30 : s101 30 = .seq [0, 1, 2, 3, 4, 5, 6, 7, 8, 9, 10, 11, 12, 13] (.both (.seq [14, 15, 16, 17, 18, 19, 20] .nil) (.seq [18, 14, 15, 16, 17, 19, 20] .nil)) := rfl
theorem s101_ok : okCode E 161 s101 (Tryz.f101.body.getD .skip) = true := by kernel_rfl
/-- the orders of impl.feasible -/
def s102 (i : Nat) : Tr := if i = 15 then .seq [0, 1, 2, 3, 4, 5, 6, 7, 8, 9] .nil else .nil
theorem s102_15 : s102 15 = .seq [0, 1, 2, 3, 4, 5, 6, 7, 8, 9] .nil := rfl
theorem s102_ok : okCode E 66 s102 (Tryz.f102.body.getD .skip) = true := by kernel_rfl
/-- the orders of impl.EqualRationals -/
def s103 (i : Nat) : Tr := if i = 6 then .seq [0, 1, 2, 3, 4, 5, 6, 7, 8] .nil else .nil
theorem s103_6 : s103 6 = .seq [0, 1, 2, 3, 4, 5, 6, 7, 8] .nil := rfl
theorem s103_ok : okCode E 26 s103 (Tryz.f103.body.getD .skip) = true := by kernel_rfl
/-- the orders of impl.MulRational -/
def s104 (_ : Nat) : Tr := .nil
theorem s104_ok : okCode E 24 s104 (Tryz.f104.body.getD .skip) = true := by kernel_rfl
/-- the orders of impl.AddRational -/
def s105 (_ : Nat) : Tr := .nil
theorem s105_ok : okCode E 30 s105 (Tryz.f105.body.getD .skip) = true := by kernel_rfl
/-- the orders of spec.l13Step -/
def s106 (i : Nat) : Tr := if i = 5 then .seq [0, 1, 2, 3, 4, 5, 6, 7, 8, 9, 10, 11, 12, 13] (.both (.seq [14, 15, 16, 17, 18, 19, 20] .nil) (.seq [18, 14, 15, 16, 17, 19, 20] .nil)) else if i = 9 then .seq [0, 1, 2, 3, 4, 5, 6, 7] (.both (.seq [8, 9, 10, 11, 12, 13, 14] .nil) (.seq [12, 8, 9, 10, 11, 13, 14] .nil)) else if i = 10 then .seq [0, 1, 2, 3, 4, 5, 6, 7] (.both (.seq [8, 9, 10, 11, 12, 13, 14] .nil) (.seq [12, 8, 9, 10, 11, 13, 14] .nil)) else if i = 12 then .seq [0, 1, 2, 3, 4, 5, 6, 7] .nil else .nil
theorem s106_5 : s106 5 = .seq [0, 1, 2, 3, 4, 5, 6, 7, 8, 9, 10, 11, 12, 13] (.both (.seq [14, 15, 16, 17, 18, 19, 20] .nil) (.seq [18, 14, 15, 16, 17, 19, 20] .nil)) := rfl
theorem s106_9 : s106 9 = .seq [0, 1, 2, 3, 4, 5, 6, 7] (.both (.seq [8, 9, 10, 11, 12, 13, 14] .nil) (.seq [12, 8, 9, 10, 11, 13, 14] .nil)) := rfl
theorem s106_10 : s106 10 = .seq [0, 1, 2, 3, 4, 5, 6, 7] (.both (.seq [8, 9, 10, 11, 12, 13, 14] .nil) (.seq [12, 8, 9, 10, 11, 13, 14] .nil)) := rfl
theorem s106_12 : s106 12 = .seq [0, 1, 2, 3, 4, 5, 6, 7] .nil := rfl
theorem s106_ok : okCode E 101 s106 (Tryz.f106.body.getD .skip) = true := by kernel_rfl
/-- the orders of spec.DivRational -/
def s107 (_ : Nat) : Tr := .nil
theorem s107_ok : okCode E 33 s107 (Tryz.f107.body.getD .skip) = true := by kernel_rfl
/-- the orders of spec.MatrixVectorProduct -/
def s108 (_ : Nat) : Tr := .nil
theorem s108_ok : okCode E 34 s108 (Tryz.f108.body.getD .skip) = true := by kernel_rfl
/-- the orders of spec.NewRational -/
def s109 (i : Nat) : Tr := if i = 8 then .seq [0, 1, 2, 3, 4, 5, 6, 7, 8] .nil else .nil
theorem s109_8 : s109 8 = .seq [0, 1, 2, 3, 4, 5, 6, 7, 8] .nil := rfl
theorem s109_ok : okCode E 52 s109 (Tryz.f109.body.getD .skip) = true := by kernel_rfl
/-- the orders of impl.eliminate -/
def s110 (i : Nat) : Tr := if i = 1 then .seq [0, 1, 2, 3, 4, 5, 6, 7] (.both (.seq [8, 9, 10, 11, 12, 13, 14] .nil) (.seq [12, 8, 9, 10, 11, 13, 14] .nil)) else if i = 7 then .seq [0, 1, 2, 3, 4] (.both (.seq [5, 6, 7, 8, 9, 10, 11] .nil) (.seq [9, 5, 6, 7, 8, 10, 11] .nil)) else if i = 8 then .seq [0, 1, 2, 3, 4] (.both (.seq [5, 6, 7, 8, 9, 10, 11] .nil) (.seq [9, 5, 6, 7, 8, 10, 11] .nil)) else .nil
theorem s110_1 : s110 1 = .seq [0, 1, 2, 3, 4, 5, 6, 7] (.both (.seq [8, 9, 10, 11, 12, 13, 14] .nil) (.seq [12, 8, 9, 10, 11, 13, 14] .nil)) := rfl
theorem s110_7 : s110 7 = .seq [0, 1, 2, 3, 4] (.both (.seq [5, 6, 7, 8, 9, 10, 11] .nil) (.seq [9, 5, 6, 7, 8, 10, 11] .nil)) := rfl
theorem s110_8 : s110 8 = .seq [0, 1, 2, 3, 4] (.both (.seq [5, 6, 7, 8, 9, 10, 11] .nil) (.seq [9, 5, 6, 7, 8, 10, 11] .nil)) := rfl
theorem s110_ok : okCode E 63 s110 (Tryz.f110.body.getD .skip) = true := by kernel_rfl
/-- the orders of impl.DivRational -/
def s111 (_ : Nat) : Tr := .nil
theorem s111_ok : okCode E 29 s111 (Tryz.f111.body.getD .skip) = true := by kernel_rfl
/-- the orders of impl.MatrixVectorProduct -/
def s112 (_ : Nat) : Tr := .nil
theorem s112_ok : okCode E 31 s112 (Tryz.f112.body.getD .skip) = true := by kernel_rfl
/-- the orders of impl.NewRational -/
def s113 (i : Nat) : Tr := if i = 6 then .seq [0, 1, 2, 3, 4, 5, 6, 7, 8] .nil else .nil
theorem s113_6 : s113 6 = .seq [0, 1, 2, 3, 4, 5, 6, 7, 8] .nil := rfl
theorem s113_ok : okCode E 43 s113 (Tryz.f113.body.getD .skip) = true := by kernel_rfl
/-- the orders of spec.SubRational -/
def s114 (_ : Nat) : Tr := .nil
theorem s114_ok : okCode E 25 s114 (Tryz.f114.body.getD .skip) = true := by kernel_rfl
/-- the orders of impl.SubRational -/
def s115 (_ : Nat) : Tr := .nil
theorem s115_ok : okCode E 15 s115 (Tryz.f115.body.getD .skip) = true := by kernel_rfl
end Go.Proofs.YtpbcmlolapdfjaaGreatDoor


namespace Go.Proofs.YtpbcmlolapdfjaaGreatDoor
open Go.Vs Go.Proofs Go
set_option maxRecDepth 100000
set_option maxHeartbeats 1000000


theorem w_laws_markText (k : Int) (h0 : 1 ≤ k) (h1 : k ≤ 4611686018427387904) :
   VC Tryz.prog 56 [.d (.int .i64 k)] (fun _ r => r = .d (.str (mtext k))) := by
  refine VC.of E s56 (by kernel_rfl) Tryz.func56 (by rfl) (by kernel_rfl) (by simp [Tryz.f56]) (by simp [Tryz.f56]) s56_ok fun B => ?_
  simp [Tryz.f56, show ¬ k ≤ 0 by omega]
  refine loop_rule (X := Nat × Int × List UInt8) (fun x => x.1 ≤ 64 ∧ 0 ≤ x.2.1 ∧ x.2.1 < 2 ^ x.1 ∧ x.2.2.length + x.1 = 64 ∧ mdig x.1 x.2.1 x.2.2 = mdig 64 k []) (fun x => [(0, .d (.int .i64 x.2.1)), (3, .d (.str x.2.2))]) (fun _ => []) (fun x => x.1) (64, k, []) ?_ (by simp) (by simp) ?_
  · simp; omega
  · rintro ⟨n, q, o⟩ hs t m ⟨hi1, hi2, hi3, hi4, hi5⟩ hh
    simp only at hi1 hi2 hi3 hi4 hi5
    by_cases hq : 0 < q
    · obtain ⟨n, rfl⟩ : ∃ n', n = n' + 1 := by
        cases n with
        | zero => simp at hi3; omega
        | succ n => exact ⟨n, rfl⟩
      have e1 : q.tmod 10 = q % 10 := Int.tmod_eq_emod_of_nonneg hi2
      have e2 : q.tdiv 10 = q / 10 := Int.tdiv_eq_ediv_of_nonneg hi2
      have hp : (2 : Int) ^ (n + 1) = 2 * 2 ^ n := by rw [Int.pow_succ]; omega
      have hb : (2 : Int) ^ n ≤ 2 ^ 63 := by
        have : n ≤ 63 := by omega
        exact_mod_cast Nat.pow_le_pow_right (by decide : 0 < 2) this
      simp only [hp] at hi3
      have e3 : IntKind.i64.wrap (48 + q.tmod 10) = 48 + q.tmod 10 := by rw [e1]; exact wrap64_of (by omega) (by omega)
      have e4 : IntKind.i64.wrap (q.tdiv 10) = q.tdiv 10 := by rw [e2]; exact wrap64_of (by omega) (by simp at hb; omega)
      simp [hq, e3, e4, isB, toB]
      refine ⟨by omega, ?_⟩
      refine back (n, q.tdiv 10, UInt8.ofNat (IntKind.u8.wrap (48 + q.tmod 10)).toNat :: o) ⟨by simp; omega, by simp [e2]; omega, by simp [e2]; omega, by simp at hi4 ⊢; omega, ?_⟩ (by simp) rfl (by simp) (by simp) (by simp)
      rw [← hi5]
      simp only [mdig, if_pos hq]
    · have hz : q = 0 := by omega
      subst hz
      have : mdig n 0 o = o := by cases n <;> simp [mdig]
      rw [this] at hi5
      simp [mtext, ← hi5]
      omega

end Go.Proofs.YtpbcmlolapdfjaaGreatDoor


namespace Go.Proofs.YtpbcmlolapdfjaaGreatDoor
open Go.Vs Go.Proofs Go
set_option maxRecDepth 100000
set_option maxHeartbeats 1000000

theorem w_laws_szIntS (a : Sl (Int)) (left : Int) (h0 : 0 ≤ left) (h1 : left ≤ 1048576) (ha : okS okI a) :
   VC Tryz.prog 15 [.d (dSl cI a), .d (.int .i64 left)] (fun _ r => r = .d (.int .i64 (szv left (swS swI a)))) := by
  refine VC.of E s15 (by kernel_rfl) Tryz.func15 (by rfl) (by kernel_rfl) (by simp [Tryz.f15]) (by simp [Tryz.f15]) s15_ok fun B => ?_
  have ha1 := ha.1
  simp only [maxLen] at ha1
  have hw1 : IntKind.i64.wrap (left - (a.xs.length : Int)) = left - a.xs.length := wrap64_of (by omega) (by omega)
  have hwt : swS swI a = a.xs.length + sumW swI a.xs := rfl
  simp [Tryz.f15, dSl, hw1]
  have hz : sumW swI a.xs = 0 := by
    generalize a.xs = l
    induction l with
    | nil => rfl
    | cons b r ih => simp [swI, ih]
  refine ⟨fun h => ?_, fun h => ?_⟩
  · rw [szv_neg (by omega)]
  · rw [szv_pos (by omega)]; omega
theorem w_laws_eqIntS (a b : Sl (Int)) (ha : okS okI a) :
   VC Tryz.prog 27 [.d (dSl cI a), .d (dSl cI b)] (fun _ r => r = .d (.bool (plS plI a == plS plI b))) := by
  refine VC.of E s27 (by kernel_rfl) Tryz.func27 (by rfl) (by kernel_rfl) (by simp [Tryz.f27]) (by simp [Tryz.f27]) s27_ok fun B => ?_
  have ha1 := ha.1
  simp only [maxLen] at ha1
  simp [Tryz.f27, s27_6, dSl, plS]
  refine ⟨fun h e => h (by have := congrArg List.length e; simp at this; omega), fun hl => ?_⟩
  have hl' : a.xs.length = b.xs.length := by omega
  refine loop_rule (X := Nat) (fun i => i ≤ a.xs.length ∧ (a.xs.map plI).take i = (b.xs.map plI).take i) (fun i => [(0, .d (.sl a.id a.T (a.xs.map cI))), (1, .d (.sl b.id b.T (b.xs.map cI))), (5, .d (.int .i64 i))]) (fun _ => []) (fun i => a.xs.length - i) 0 (by simp) (by simp) (by simp) ?_
  intro i hs t m hi hh
  by_cases hlt : i < a.xs.length
  · have hwi := wr1 (i := i) (by omega)
    have hlb : i < b.xs.length := by omega
    have hst := eqm_step plI hlt hlb hi.2
    simp [cI, hlt, hlb, hwi, s27_6, ]
    simp only [plI] at hst
    refine ⟨fun hne he => hne (hst.2 (by rw [he])), fun heq => ?_⟩
    exact back (i + 1) ⟨by omega, hst.1 heq⟩ (by omega) rfl (by simp) (by simp) (by simp)
  · have := eq_all (a := a.xs.map plI) (b := b.xs.map plI) (by simpa using Nat.le_of_not_lt hlt) (by simpa using hl') hi.2
    have hlb : ¬ i < b.xs.length := by omega
    simp [hlt, hlb, this]
theorem w_laws_eqIntSS (a b : Sl (Sl (Int))) (ha : okS (okS okI) a) :
   VC Tryz.prog 26 [.d (dSl (cS cI) a), .d (dSl (cS cI) b)] (fun _ r => r = .d (.bool (plS (plS plI) a == plS (plS plI) b))) := by
  refine VC.of E s26 (by kernel_rfl) Tryz.func26 (by rfl) (by kernel_rfl) (by simp [Tryz.f26]) (by simp [Tryz.f26]) s26_ok fun B => ?_
  have ha1 := ha.1
  simp only [maxLen] at ha1
  simp [Tryz.f26, s26_6, dSl, plS]
  refine ⟨fun h e => h (by have := congrArg List.length e; simp at this; omega), fun hl => ?_⟩
  have hl' : a.xs.length = b.xs.length := by omega
  refine loop_rule (X := Nat) (fun i => i ≤ a.xs.length ∧ (a.xs.map (plS plI)).take i = (b.xs.map (plS plI)).take i) (fun i => [(0, .d (.sl a.id a.T (a.xs.map (cS cI)))), (1, .d (.sl b.id b.T (b.xs.map (cS cI)))), (5, .d (.int .i64 i))]) (fun _ => []) (fun i => a.xs.length - i) 0 (by simp) (by simp) (by simp) ?_
  intro i hs t m hi hh
  by_cases hlt : i < a.xs.length
  · have hwi := wr1 (i := i) (by omega)
    have hlb : i < b.xs.length := by omega
    have hst := eqm_step (plS plI) hlt hlb hi.2
    simp [cS, hlt, hlb, s26_6, ]
    refine call_pure (w_laws_eqIntS a.xs[i] b.xs[i] (ha.2 _ (List.getElem_mem _))) rfl (by simp) rfl fun hs' hh' => ?_
    simp at hh'
    simp [hwi]
    refine ⟨fun hne he => hne (hst.2 (by rw [he])), fun heq => ?_⟩
    exact back (i + 1) ⟨by omega, hst.1 heq⟩ (by omega) rfl (by simp; omega) (by simp) (by simp)
  · have := eq_all (a := a.xs.map (plS plI)) (b := b.xs.map (plS plI)) (by simpa using Nat.le_of_not_lt hlt) (by simpa using hl') hi.2
    have hlb : ¬ i < b.xs.length := by omega
    simp [hlt, hlb, this]
theorem w_laws_szAtom (a : Atom) (left : Int) (h0 : 0 ≤ left) (h1 : left ≤ 1048576) (ha : okAtom a) :
   VC Tryz.prog 34 [.agg ((cAtom a).map V.d), .d (.int .i64 left)] (fun _ r => r = .d (.int .i64 (szv left (swAtom a)))) := by
  refine VC.of E s34 (by kernel_rfl) Tryz.func34 (by rfl) (by kernel_rfl) (by simp [Tryz.f34]) (by simp [Tryz.f34]) s34_ok fun B => ?_
  have hwt : swAtom a = swStr a.rel + swS swI a.vars := rfl
  have hc0 : (0 : Int) ≤ left := h0
  have hs0 : a.rel.length ≤ 9223372036854775807 := ha.1
  have hw0 : IntKind.i64.wrap (left - (a.rel.length : Int)) = left - a.rel.length := wrap64_of (by omega) (by omega)
  have hq0 : swStr a.rel = a.rel.length := rfl
  simp [Tryz.f34, cAtom, cS, cStr, dSl, hw0]
  refine ⟨fun hneg => ?_, fun hpos => ?_⟩
  · rw [szv_neg (by omega)]
  · skip
    refine call_pure (w_laws_szIntS a.vars _ (by omega) (by omega) ha.2) rfl (by simp) rfl fun hs' hh' => ?_
    by_cases hb1 : (swS swI a.vars : Int) ≤ left - a.rel.length
    · rw [szv_pos hb1]
      have hn1 : ¬ left - a.rel.length - swS swI a.vars < 0 := by omega
      simp [hn1]
      rw [szv_pos (by omega)]; omega
    · rw [szv_neg (by omega)]
      simp
      try rw [szv_neg (by omega)]
      all_goals exact fun h => absurd h (by decide)
theorem w_laws_eqAtom (a b : Atom) (ha : okAtom a) :
   VC Tryz.prog 55 [.agg ((cAtom a).map V.d), .agg ((cAtom b).map V.d)] (fun _ r => r = .d (.bool (plAtom a == plAtom b))) := by
  refine VC.of E s55 (by kernel_rfl) Tryz.func55 (by rfl) (by kernel_rfl) (by simp [Tryz.f55]) (by simp [Tryz.f55]) s55_ok fun B => ?_
  simp [Tryz.f55, cAtom, cS, cStr, dSl, plAtom, plI, plStr]
  by_cases e0 : a.rel = b.rel
  case neg => simp [e0]
  simp [e0]
  refine call_pure (w_laws_eqIntS a.vars b.vars ha.2) rfl (by simp) rfl fun hs1 hh1 => ?_
  by_cases e1 : plS plI a.vars = plS plI b.vars
  case neg => simp [e1]
  simp [e1]
theorem w_laws_szAtomS (a : Sl (Atom)) (left : Int) (h0 : 0 ≤ left) (h1 : left ≤ 1048576) (ha : okS okAtom a) :
   VC Tryz.prog 14 [.d (dSl cAtom a), .d (.int .i64 left)] (fun _ r => r = .d (.int .i64 (szv left (swS swAtom a)))) := by
  refine VC.of E s14 (by kernel_rfl) Tryz.func14 (by rfl) (by kernel_rfl) (by simp [Tryz.f14]) (by simp [Tryz.f14]) s14_ok fun B => ?_
  have ha1 := ha.1
  simp only [maxLen] at ha1
  have hw1 : IntKind.i64.wrap (left - (a.xs.length : Int)) = left - a.xs.length := wrap64_of (by omega) (by omega)
  have hwt : swS swAtom a = a.xs.length + sumW swAtom a.xs := rfl
  simp [Tryz.f14, dSl, hw1]
  refine ⟨fun h => ?_, fun h => ?_⟩
  · rw [szv_neg (by omega)]
  · refine loop_rule (X := Nat) (fun i => i ≤ a.xs.length ∧ 0 ≤ left - a.xs.length - sumW swAtom (a.xs.take i)) (fun i => [(0, .d (.sl a.id a.T (a.xs.map cAtom))), (1, .d (.int .i64 (left - a.xs.length - sumW swAtom (a.xs.take i)))), (5, .d (.int .i64 i))]) (fun _ => []) (fun i => a.xs.length - i) 0 ?_ ?_ (by simp) ?_
    · simp; omega
    · simp
    · intro i hs t m hi hh
      by_cases hlt : i < a.xs.length
      · simp [cAtom, cS, cStr, hlt]
        refine call_pure (w_laws_szAtom a.xs[i] _ (by omega) (by omega) (ha.2 _ (List.getElem_mem _))) rfl (by simp) rfl fun hs' hh' => ?_
        have e1 := sumW_succ swAtom hlt
        have e2 := sumW_le swAtom a.xs (i + 1)
        have hwi := wr1 (i := i) (by omega)
        by_cases hc : (swAtom a.xs[i] : Int) ≤ left - a.xs.length - sumW swAtom (a.xs.take i)
        · rw [szv_pos hc]
          have hn : ¬ left - a.xs.length - sumW swAtom (a.xs.take i) - swAtom a.xs[i] < 0 := by omega
          simp [hwi, hn]
          refine back (i + 1) ⟨by omega, by omega⟩ (by omega) rfl (by simp at hh' ⊢; omega) ?_ (by simp)
          simp
          omega
        · rw [szv_neg (by omega)]
          simp
          rw [szv_neg (by omega)]
          all_goals exact fun h => absurd h (by decide)
      · have : i = a.xs.length := by omega
        subst this
        simp
        rw [szv_pos] <;> (simp at hi ⊢; omega)
theorem w_laws_eqAtomS (a b : Sl (Atom)) (ha : okS okAtom a) :
   VC Tryz.prog 28 [.d (dSl cAtom a), .d (dSl cAtom b)] (fun _ r => r = .d (.bool (plS plAtom a == plS plAtom b))) := by
  refine VC.of E s28 (by kernel_rfl) Tryz.func28 (by rfl) (by kernel_rfl) (by simp [Tryz.f28]) (by simp [Tryz.f28]) s28_ok fun B => ?_
  have ha1 := ha.1
  simp only [maxLen] at ha1
  simp [Tryz.f28, s28_6, dSl, plS]
  refine ⟨fun h e => h (by have := congrArg List.length e; simp at this; omega), fun hl => ?_⟩
  have hl' : a.xs.length = b.xs.length := by omega
  refine loop_rule (X := Nat) (fun i => i ≤ a.xs.length ∧ (a.xs.map plAtom).take i = (b.xs.map plAtom).take i) (fun i => [(0, .d (.sl a.id a.T (a.xs.map cAtom))), (1, .d (.sl b.id b.T (b.xs.map cAtom))), (5, .d (.int .i64 i))]) (fun _ => []) (fun i => a.xs.length - i) 0 (by simp) (by simp) (by simp) ?_
  intro i hs t m hi hh
  by_cases hlt : i < a.xs.length
  · have hwi := wr1 (i := i) (by omega)
    have hlb : i < b.xs.length := by omega
    have hst := eqm_step plAtom hlt hlb hi.2
    simp [cAtom, cS, cStr, hlt, hlb, s28_6, ]
    refine call_pure (w_laws_eqAtom a.xs[i] b.xs[i] (ha.2 _ (List.getElem_mem _))) rfl (by simp) rfl fun hs' hh' => ?_
    simp at hh'
    simp [hwi]
    refine ⟨fun hne he => hne (hst.2 (by rw [he])), fun heq => ?_⟩
    exact back (i + 1) ⟨by omega, hst.1 heq⟩ (by omega) rfl (by simp; omega) (by simp) (by simp)
  · have := eq_all (a := a.xs.map plAtom) (b := b.xs.map plAtom) (by simpa using Nat.le_of_not_lt hlt) (by simpa using hl') hi.2
    have hlb : ¬ i < b.xs.length := by omega
    simp [hlt, hlb, this]
theorem w_laws_szQuery (a : Query) (left : Int) (h0 : 0 ≤ left) (h1 : left ≤ 1048576) (ha : okQuery a) :
   VC Tryz.prog 4 [.agg ((cQuery a).map V.d), .d (.int .i64 left)] (fun _ r => r = .d (.int .i64 (szv left (swQuery a)))) := by
  refine VC.of E s4 (by kernel_rfl) Tryz.func4 (by rfl) (by kernel_rfl) (by simp [Tryz.f4]) (by simp [Tryz.f4]) s4_ok fun B => ?_
  have hwt : swQuery a = swS swAtom a.atoms + swS swI a.out := rfl
  have hc0 : (0 : Int) ≤ left := h0
  simp [Tryz.f4, cI, cQuery, cS, dSl]
  refine call_pure (w_laws_szAtomS a.atoms _ (by omega) (by omega) ha.2.1) rfl (by simp) rfl fun hs' hh' => ?_
  by_cases hb0 : (swS swAtom a.atoms : Int) ≤ left
  · rw [szv_pos hb0]
    have hn0 : ¬ left - swS swAtom a.atoms < 0 := by omega
    simp [hn0]
    refine call_pure (w_laws_szIntS a.out _ (by omega) (by omega) ha.2.2) rfl (by simp) rfl fun hs' hh' => ?_
    by_cases hb1 : (swS swI a.out : Int) ≤ left - swS swAtom a.atoms
    · rw [szv_pos hb1]
      have hn1 : ¬ left - swS swAtom a.atoms - swS swI a.out < 0 := by omega
      simp [hn1]
      rw [szv_pos (by omega)]; omega
    · rw [szv_neg (by omega)]
      simp
      try rw [szv_neg (by omega)]
      all_goals exact fun h => absurd h (by decide)
  · rw [szv_neg (by omega)]
    simp
    try rw [szv_neg (by omega)]
    all_goals exact fun h => absurd h (by decide)
theorem w_laws_eqQuery (a b : Query) (ha : okQuery a) :
   VC Tryz.prog 10 [.agg ((cQuery a).map V.d), .agg ((cQuery b).map V.d)] (fun _ r => r = .d (.bool (plQuery a == plQuery b))) := by
  refine VC.of E s10 (by kernel_rfl) Tryz.func10 (by rfl) (by kernel_rfl) (by simp [Tryz.f10]) (by simp [Tryz.f10]) s10_ok fun B => ?_
  simp [Tryz.f10, cI, cQuery, cS, dSl, plQuery, plI, plStr]
  by_cases e0 : a.n = b.n
  case neg => simp [e0]
  simp [e0]
  refine call_pure (w_laws_eqAtomS a.atoms b.atoms ha.2.1) rfl (by simp) rfl fun hs1 hh1 => ?_
  by_cases e1 : plS plAtom a.atoms = plS plAtom b.atoms
  case neg => simp [e1]
  simp [e1]
  refine call_pure (w_laws_eqIntS a.out b.out ha.2.2) rfl (by simp) rfl fun hs2 hh2 => ?_
  by_cases e2 : plS plI a.out = plS plI b.out
  case neg => simp [e2]
  simp [e2]
theorem w_laws_eqDecomposition (a b : Dec) (ha : okDec a) :
   VC Tryz.prog 8 [.agg ((cDec a).map V.d), .agg ((cDec b).map V.d)] (fun _ r => r = .d (.bool (plDec a == plDec b))) := by
  refine VC.of E s8 (by kernel_rfl) Tryz.func8 (by rfl) (by kernel_rfl) (by simp [Tryz.f8]) (by simp [Tryz.f8]) s8_ok fun B => ?_
  simp [Tryz.f8, cDec, cS, dSl, plDec, plI, plStr]
  refine call_pure (w_laws_eqIntSS a.bags b.bags ha.1) rfl (by simp) rfl fun hs0 hh0 => ?_
  by_cases e0 : plS (plS plI) a.bags = plS (plS plI) b.bags
  case neg => simp [e0]
  simp [e0]
  refine call_pure (w_laws_eqIntS a.par b.par ha.2) rfl (by simp) rfl fun hs1 hh1 => ?_
  by_cases e1 : plS plI a.par = plS plI b.par
  case neg => simp [e1]
  simp [e1]
theorem w_laws_eqRational (a b : Go.Vs.Rat) (ha : okRat a) :
   VC Tryz.prog 9 [.agg ((cRat a).map V.d), .agg ((cRat b).map V.d)] (fun _ r => r = .d (.bool (plRat a == plRat b))) := by
  refine VC.of E s9 (by kernel_rfl) Tryz.func9 (by rfl) (by kernel_rfl) (by simp [Tryz.f9]) (by simp [Tryz.f9]) s9_ok fun B => ?_
  simp [Tryz.f9, cI, cRat, dSl, plRat, plI, plStr]
  by_cases e0 : a.num = b.num <;> by_cases e1 : a.den = b.den <;> simp [e0, e1]

end Go.Proofs.YtpbcmlolapdfjaaGreatDoor


namespace Go.Proofs.YtpbcmlolapdfjaaGreatDoor
open Go.Vs Go.Proofs Go
set_option maxRecDepth 100000
set_option maxHeartbeats 1000000

theorem w_laws_toIntS (a : Sl (Int)) (ha : okS okI a) (hb : a.xs.length ≤ 1048576) :
   VC Tryz.prog 21 [.d (dSl cI a)] (fun n r => ∃ y : Sl (Int), r = .d (dSl cI y) ∧ plS plI y = plS plI a ∧ okS okI y ∧ Good (cS cI y) (whS whI y) n) := by
  refine VC.of E s21 (by kernel_rfl) Tryz.func21 (by rfl) (by kernel_rfl) (by simp [Tryz.f21]) (by simp [Tryz.f21]) s21_ok fun B => ?_
  simp [Tryz.f21, dSl]
  refine ⟨⟨by omega, by simp only [maxLen]; omega⟩, ?_⟩
  refine loop_rule (X := Nat) (fun i => i ≤ a.xs.length) (fun i => [(0, .d (.sl a.id a.T (a.xs.map cI))), (3, .own 7 0 a.xs.length), (4, .d (.int .i64 i))]) (fun i => [(7, some (.row 3 1 (fill [.int .i64 0] (a.xs.map cI) i)))]) (fun i => a.xs.length - i) 0 (by simp) (by simp) (by simp) ?_
  intro i hs t m hi hh
  by_cases hlt : i < a.xs.length
  · have hwi := wr1 (i := i) (by omega)
    simp [cI, hlt, hwi]
    refine back (i + 1) (by omega) (by omega) rfl (by simp) (by simp) ?_
    have := fill_set (z := [.int .i64 0]) (l := a.xs.map cI) (i := i) (by simpa using hlt) (by simp [hlt]; rfl)
    simp only [cI] at this ⊢
    simp [this]
  · have hn : i = a.xs.length := by omega
    subst hn
    have hf : fill [.int .i64 0] (a.xs.map cI) a.xs.length = a.xs.map cI := fill_all (by simp)
    simp [hf]
    intro γ hs' h1 hg
    obtain ⟨q1, q2⟩ := gam_at hg (k := 7) (T := 3) (sz := 1) (es := a.xs.map cI) (by simp)
    have q3 := gam_row hg (k := 7) (T := 3) (sz := 1) (es := a.xs.map cI) (by simp)
    clear hg
    refine ⟨⟨γ 7, some (3, 1), a.xs⟩, ⟨⟨rfl, rfl, List.take_of_length_le (by simp)⟩, rfl, ha, good_row (fun g hg => (q1 g hg).1) (by simpa using q2) q3 ⟨by simp, by simp⟩ (by simp [whI, whStr])⟩⟩
theorem w_laws_heldIntS (a : Sl (Int)) (k : Int) (h0 : 1 ≤ k) (h1 : k + wtS wtI a ≤ 4611686018427387904) (ha : okS okI a) :
   VC Tryz.prog 33 [.d (dSl cI a), .d (.int .i64 k)] (fun _ r => r = .d (.int .i64 (hv (hlS (hlI) (wtI) a k) k (wtS wtI a)))) := by
  refine VC.of E s33 (by kernel_rfl) Tryz.func33 (by rfl) (by kernel_rfl) (by simp [Tryz.f33]) (by simp [Tryz.f33]) s33_ok fun B => ?_
  obtain ⟨id, T, xs⟩ := a
  have ha1 := ha.1
  simp only [maxLen] at ha1
  have hwt : wtS wtI (⟨id, T, xs⟩ : Sl (Int)) = sumW wtI xs := rfl
  have hhl : hlS (hlI) (wtI) (⟨id, T, xs⟩ : Sl (Int)) k = hlList hlI wtI xs k := rfl
  rw [hwt] at h1
  rw [hwt, hhl]
  simp [Tryz.f33, dSl]
  refine loop_rule (X := Nat) (fun i => i ≤ xs.length ∧ hlList hlI wtI (xs.take i) k = true) (fun i => [(0, .d (.sl id T (xs.map cI))), (1, .d (.int .i64 (k + sumW wtI (xs.take i)))), (5, .d (.int .i64 i))]) (fun _ => []) (fun i => xs.length - i) 0 (by simp [hlList]) (by simp) (by simp) ?_
  intro i hs t m hi hh
  by_cases hlt : i < xs.length
  · have hwi := wr1 (i := i) (by omega)
    have e1 := sumW_succ wtI hlt
    have e2 := sumW_le wtI xs (i + 1)
    have hmem : xs[i] ∈ xs := List.getElem_mem _
    have hstep := hlList_step (hl := hlI) (wt := wtI) (k := k) hlt
    rw [hi.2, Bool.true_and] at hstep
    have hbad := hlList_bad (hl := hlI) (wt := wtI) (k := k) hlt
    have hex : hlI xs[i] (k + sumW wtI (xs.take i)) = (xs[i] == k + sumW wtI (xs.take i)) := rfl
    have hwx : wtI xs[i] = 1 := by first | rfl | (simp only [wtTab, wtDelta, wtReln, wtStr, wtI]; omega)
    have hk0 : IntKind.i64.wrap (k + sumW wtI (xs.take i) + 1) = k + sumW wtI (xs.take i) + 1 := wrap64_of (by omega) (by omega)
    simp [cI, hlt, dSl, ]
    by_cases c0 : xs[i] = k + sumW wtI (xs.take i)
    case neg => simp [c0, hbad (by simp [hex, c0])]
    simp [c0, hk0, ]
    simp [hwi]
    refine back (i + 1) ⟨by omega, hstep.trans (hex.trans (by simp [c0]))⟩ (by omega) rfl (by simp <;> omega) ?_ (by simp)
    simp
    omega
  · have hn : i = xs.length := by omega
    subst hn
    have h2 := hi.2
    rw [List.take_length] at h2
    simp [h2]
theorem w_laws_heldIntSS (a : Sl (Sl (Int))) (k : Int) (h0 : 1 ≤ k) (h1 : k + wtS (wtS wtI) a ≤ 4611686018427387904) (ha : okS (okS okI) a) :
   VC Tryz.prog 32 [.d (dSl (cS cI) a), .d (.int .i64 k)] (fun _ r => r = .d (.int .i64 (hv (hlS (hlS (hlI) (wtI)) (wtS wtI) a k) k (wtS (wtS wtI) a)))) := by
  refine VC.of E s32 (by kernel_rfl) Tryz.func32 (by rfl) (by kernel_rfl) (by simp [Tryz.f32]) (by simp [Tryz.f32]) s32_ok fun B => ?_
  obtain ⟨id, T, xs⟩ := a
  have ha1 := ha.1
  simp only [maxLen] at ha1
  have hwt : wtS (wtS wtI) (⟨id, T, xs⟩ : Sl (Sl (Int))) = sumW (wtS wtI) xs := rfl
  have hhl : hlS (hlS (hlI) (wtI)) (wtS wtI) (⟨id, T, xs⟩ : Sl (Sl (Int))) k = hlList (hlS (hlI) (wtI)) (wtS wtI) xs k := rfl
  rw [hwt] at h1
  rw [hwt, hhl]
  simp [Tryz.f32, dSl]
  refine loop_rule (X := Nat) (fun i => i ≤ xs.length ∧ hlList (hlS (hlI) (wtI)) (wtS wtI) (xs.take i) k = true) (fun i => [(0, .d (.sl id T (xs.map (cS cI)))), (1, .d (.int .i64 (k + sumW (wtS wtI) (xs.take i)))), (5, .d (.int .i64 i))]) (fun _ => []) (fun i => xs.length - i) 0 (by simp [hlList]) (by simp) (by simp) ?_
  intro i hs t m hi hh
  by_cases hlt : i < xs.length
  · have hwi := wr1 (i := i) (by omega)
    have e1 := sumW_succ (wtS wtI) hlt
    have e2 := sumW_le (wtS wtI) xs (i + 1)
    have hmem : xs[i] ∈ xs := List.getElem_mem _
    have hstep := hlList_step (hl := (hlS (hlI) (wtI))) (wt := (wtS wtI)) (k := k) hlt
    rw [hi.2, Bool.true_and] at hstep
    have hbad := hlList_bad (hl := (hlS (hlI) (wtI))) (wt := (wtS wtI)) (k := k) hlt
    have hex : hlS (hlI) (wtI) xs[i] (k + sumW (wtS wtI) (xs.take i)) = (hlS (hlI) (wtI) xs[i] (k + sumW (wtS wtI) (xs.take i))) := rfl
    have hwx : wtS wtI xs[i] = wtS wtI xs[i] := by first | rfl | (simp only [wtTab, wtDelta, wtReln, wtStr, wtI]; omega)
    simp [cS, hlt, dSl, ]
    refine call_pure (w_laws_heldIntS xs[i] _ (by omega) (by omega) ((ha.2 _ hmem))) rfl (by simp) rfl fun hs0 hh0 => ?_
    simp at hh0
    by_cases c0 : hlS (hlI) (wtI) xs[i] (k + sumW (wtS wtI) (xs.take i)) = true
    case neg =>
      have c0' : hlS (hlI) (wtI) xs[i] (k + sumW (wtS wtI) (xs.take i)) = false := by simpa using c0
      simp [c0', hbad (by simp [hex, c0'])]
    have hn0 : ¬ k + sumW (wtS wtI) (xs.take i) + (wtS wtI xs[i] : Int) < 0 := by omega
    simp [c0, hn0, hlt, cS, dSl, ]
    simp [hwi]
    refine back (i + 1) ⟨by omega, hstep.trans (hex.trans (by simp [c0]))⟩ (by omega) rfl (by simp <;> omega) ?_ (by simp)
    simp
    omega
  · have hn : i = xs.length := by omega
    subst hn
    have h2 := hi.2
    rw [List.take_length] at h2
    simp [h2]
theorem w_laws_toAtom (a : Atom) (ha : okAtom a) (hb : swAtom a ≤ 1048576) :
   VC Tryz.prog 42 [.agg ((cAtom a).map V.d)] (fun n r => ∃ y : Atom, r = .agg ((cAtom y).map V.d) ∧ plAtom y = plAtom a ∧ okAtom y ∧ Good (cAtom y) (whAtom y) n) := by
  refine VC.of E s42 (by kernel_rfl) Tryz.func42 (by rfl) (by kernel_rfl) (by simp [Tryz.f42]) (by simp [Tryz.f42]) s42_ok fun B => ?_
  have hwt : swAtom a = swStr a.rel + swS swI a.vars := rfl
  simp [Tryz.f42, cAtom, cS, cStr, dSl]
  refine call_some (w_laws_toIntS a.vars ha.2 (by have := hwt; simp only [swS] at this; omega)) rfl (by simp) fun n0 hs0 r0 hn0 hm0 hp0 hr0 => ?_
  obtain ⟨y0, rfl, hy0, hk0, hg0⟩ := hp0
  have hl0 : ∀ g ∈ idsL (cS cI y0), g < hs0 := fun g hg => hr0 g (by first | (simp [cS, V.ids, idsVL, idsL] at hg; done) | simpa [cS, V.ids, idsVL, idsL] using hg)
  simp at hn0
  simp [cS, dSl]
  refine ⟨⟨a.rel, y0⟩, ?_⟩
  refine ⟨by simp [cAtom, cS, cStr, dSl], by simp only [plAtom, hy0], ⟨ha.1, hk0⟩, ?_⟩
  have G0 : Good (cStr a.rel) (whStr a.rel) B := good_Str B a.rel
  have G1 : Good (cS cI y0) (whS whI y0) B := hg0.le (by omega)
  have U0 : ∀ g ∈ idsL (cStr a.rel), g < B := by simp [cStr, idsL, D.ids]
  have K1 : Good (cStr a.rel ++ cS cI y0) ((whStr a.rel) ∧ whS whI y0) B := Good.app G0 G1 (fun g h h' => by have h1 := U0 g h; have h2 := hg0.lo g h'; omega)
  have U1 : ∀ g ∈ idsL (cStr a.rel ++ cS cI y0), g < hs0 := fun g h => by rw [idsL_app] at h; rcases List.mem_append.1 h with h | h; (have h1 := U0 g h; omega); exact hl0 g h
  exact ⟨K1.nd, K1.lo, by have h := K1.wh; exact ⟨h.1, h.2⟩⟩
theorem w_laws_toAtomS (a : Sl (Atom)) (ha : okS okAtom a) (hb : swS swAtom a ≤ 1048576) :
   VC Tryz.prog 20 [.d (dSl cAtom a)] (fun n r => ∃ y : Sl (Atom), r = .d (dSl cAtom y) ∧ plS plAtom y = plS plAtom a ∧ okS okAtom y ∧ Good (cS cAtom y) (whS whAtom y) n) := by
  refine VC.of E s20 (by kernel_rfl) Tryz.func20 (by rfl) (by kernel_rfl) (by simp [Tryz.f20]) (by simp [Tryz.f20]) s20_ok fun B => ?_
  have hwt : swS swAtom a = a.xs.length + sumW swAtom a.xs := rfl
  simp [Tryz.f20, dSl]
  refine ⟨⟨by omega, by simp only [maxLen]; omega⟩, ?_⟩
  refine loop_rule2 (X := Nat × List (Atom)) (fun p h => p.1 ≤ a.xs.length ∧ p.2.length = p.1 ∧ p.2.map plAtom = (a.xs.map plAtom).take p.1 ∧ (∀ y ∈ p.2, okAtom y) ∧ GoodL cAtom whAtom B h p.2) (fun p => [(0, .d (.sl a.id a.T (a.xs.map cAtom))), (3, .own 7 0 a.xs.length), (4, .d (.int .i64 p.1))]) (fun p => [(7, some (.row 71 2 (p.2.map cAtom ++ List.replicate (a.xs.length - p.1) [.str [], .sl none none []])))]) (fun p => a.xs.length - p.1) (0, []) ⟨by simp, rfl, by simp, by simp, GoodL.nil⟩ (by simp) (by simp) ?_
  rintro ⟨i, ys⟩ hs t m ⟨hi, hyl, hpl, hok, hgd⟩ hh
  simp only at hi hyl hpl hok hgd
  by_cases hlt : i < a.xs.length
  · have hwi := wr1 (i := i) (by omega)
    have hmem : a.xs[i] ∈ a.xs := List.getElem_mem _
    have hsw := sumW_mem swAtom hmem
    simp [cAtom, cS, cStr, hlt]
    refine call_some (w_laws_toAtom a.xs[i] (ha.2 _ hmem) (by omega)) rfl (by simp) fun n hs' r hn hn' hp hr => ?_
    obtain ⟨y, rfl, hy1, hy2, hy3⟩ := hp
    simp at hn
    have hr' : ∀ g ∈ idsL (cAtom y), g < hs' := fun g hg => hr g (by first | (simp [cAtom, cS, cStr, V.ids, idsVL, idsL] at hg; done) | simpa [cAtom, cS, cStr, V.ids, idsVL, idsL] using hg)
    have hyi : ys.length = i := hyl
    simp [cAtom, cS, cStr, hlt, hwi, hyi, show i + (a.xs.length - i) = a.xs.length by omega, dSl]
    refine back2 (i + 1, ys ++ [y]) ⟨by omega, by simp [hyi], ?_, ?_, ?_⟩ (by simp <;> omega) rfl (by simp <;> omega) (by simp) ?_
    · simp only [List.map_append, hpl, List.map_cons, List.map_nil, hy1]
      rw [List.take_succ_eq_append_getElem (by simpa using hlt)]; simp
    · intro y' hy'
      rcases List.mem_append.1 hy' with h | h
      · exact hok y' h
      · rw [List.mem_singleton.1 h]; exact hy2
    · exact GoodL.snoc hgd (by omega) hn' hy3 hr'
    · simp [rep_set0 hlt, cAtom, cS, cStr, dSl]
  · have hn : i = a.xs.length := by omega
    subst hn
    simp
    intro γ hs' h1 hg
    obtain ⟨q1, q2⟩ := gam_at hg (k := 7) (T := 71) (sz := 2) (es := ys.map cAtom) (by simp [upd])
    have q3 := gam_row hg (k := 7) (T := 71) (sz := 2) (es := ys.map cAtom) (by simp [upd])
    clear hg
    refine ⟨_, ⟨by omega, rfl⟩, ⟨γ 7, some (71, 2), ys⟩, ?_, by rw [List.take_of_length_le (by simp)] at hpl; exact hpl, ⟨by simp only [maxLen]; show ys.length ≤ _; omega, hok⟩, good_row (fun g hg => (q1 g hg).1) (by simpa using q2) q3 ⟨hgd.nd, hgd.lo⟩ hgd.wh⟩
    rw [if_pos hyl.symm, List.take_of_length_le (by simp [hyl])]
theorem w_laws_toQuery (a : Query) (ha : okQuery a) (hb : swQuery a ≤ 1048576) :
   VC Tryz.prog 6 [.agg ((cQuery a).map V.d)] (fun n r => ∃ y : Query, r = .agg ((cQuery y).map V.d) ∧ plQuery y = plQuery a ∧ okQuery y ∧ Good (cQuery y) (whQuery y) n) := by
  refine VC.of E s6 (by kernel_rfl) Tryz.func6 (by rfl) (by kernel_rfl) (by simp [Tryz.f6]) (by simp [Tryz.f6]) s6_ok fun B => ?_
  have hwt : swQuery a = swS swAtom a.atoms + swS swI a.out := rfl
  simp [Tryz.f6, cI, cQuery, cS, dSl]
  refine call_some (w_laws_toAtomS a.atoms ha.2.1 (by have := hwt; omega)) rfl (by simp) fun n0 hs0 r0 hn0 hm0 hp0 hr0 => ?_
  obtain ⟨y0, rfl, hy0, hk0, hg0⟩ := hp0
  have hl0 : ∀ g ∈ idsL (cS cAtom y0), g < hs0 := fun g hg => hr0 g (by first | (simp [cS, V.ids, idsVL, idsL] at hg; done) | simpa [cS, V.ids, idsVL, idsL] using hg)
  simp at hn0
  simp [cS, dSl]
  refine call_some (w_laws_toIntS a.out ha.2.2 (by have := hwt; simp only [swS] at this; omega)) rfl (by simp) fun n1 hs1 r1 hn1 hm1 hp1 hr1 => ?_
  obtain ⟨y1, rfl, hy1, hk1, hg1⟩ := hp1
  have hl1 : ∀ g ∈ idsL (cS cI y1), g < hs1 := fun g hg => hr1 g (by first | (simp [cS, V.ids, idsVL, idsL] at hg; done) | simpa [cS, V.ids, idsVL, idsL] using hg)
  simp at hn1
  simp [cS, dSl]
  refine ⟨⟨a.n, y0, y1⟩, ?_⟩
  refine ⟨by simp [cI, cQuery, cS, dSl], by simp only [plQuery, hy0, hy1], ⟨ha.1, hk0, hk1⟩, ?_⟩
  have G0 : Good (cI a.n) (whI a.n) B := good_I B a.n
  have G1 : Good (cS cAtom y0) (whS whAtom y0) B := hg0.le (by omega)
  have G2 : Good (cS cI y1) (whS whI y1) B := hg1.le (by omega)
  have U0 : ∀ g ∈ idsL (cI a.n), g < B := by simp [cI, idsL, D.ids]
  have K1 : Good (cI a.n ++ cS cAtom y0) ((whI a.n) ∧ whS whAtom y0) B := Good.app G0 G1 (fun g h h' => by have h1 := U0 g h; have h2 := hg0.lo g h'; omega)
  have U1 : ∀ g ∈ idsL (cI a.n ++ cS cAtom y0), g < hs0 := fun g h => by rw [idsL_app] at h; rcases List.mem_append.1 h with h | h; (have h1 := U0 g h; omega); exact hl0 g h
  have K2 : Good (cI a.n ++ cS cAtom y0 ++ cS cI y1) (((whI a.n) ∧ whS whAtom y0) ∧ whS whI y1) B := Good.app K1 G2 (fun g h h' => by have h1 := U1 g h; have h2 := hg1.lo g h'; omega)
  have U2 : ∀ g ∈ idsL (cI a.n ++ cS cAtom y0 ++ cS cI y1), g < hs1 := fun g h => by rw [idsL_app] at h; rcases List.mem_append.1 h with h | h; (have h1 := U1 g h; omega); exact hl1 g h
  exact ⟨K2.nd, K2.lo, by have h := K2.wh; exact ⟨h.1.1, h.1.2, h.2⟩⟩
theorem w_laws_heldDecomposition (a : Dec) (k : Int) (h0 : 1 ≤ k) (h1 : k + wtTDec a ≤ 4611686018427387904) (ha : okDec a) :
   VC Tryz.prog 13 [.agg ((cDec a).map V.d), .d (.int .i64 k)] (fun _ r => r = .d (.int .i64 (hv (hlTDec a k) k (wtTDec a)))) := by
  refine VC.of E s13 (by kernel_rfl) Tryz.func13 (by rfl) (by kernel_rfl) (by simp [Tryz.f13]) (by simp [Tryz.f13]) s13_ok fun B => ?_
  have hwt : wtTDec a = wtS (wtS wtI) a.bags + wtS wtI a.par := rfl
  have hex : hlTDec a k = (hlS (hlS (hlI) (wtI)) (wtS wtI) a.bags (k) && hlS (hlI) (wtI) a.par (k + wtS (wtS wtI) a.bags)) := rfl
  simp [Tryz.f13, cDec, cS, dSl]
  refine call_pure (w_laws_heldIntSS a.bags _ (by omega) (by omega) ha.1) rfl (by simp) rfl fun hs0 hh0 => ?_
  by_cases c0 : hlS (hlS (hlI) (wtI)) (wtS wtI) a.bags (k) = true
  case neg =>
    have c0' : hlS (hlS (hlI) (wtI)) (wtS wtI) a.bags (k) = false := by simpa using c0
    simp [c0', hex]
  have hn0 : ¬ k + (wtS (wtS wtI) a.bags : Int) < 0 := by omega
  simp [c0, hn0]
  refine call_pure (w_laws_heldIntS a.par _ (by omega) (by omega) ha.2) rfl (by simp) rfl fun hs1 hh1 => ?_
  by_cases c1 : hlS (hlI) (wtI) a.par (k + wtS (wtS wtI) a.bags) = true
  case neg =>
    have c1' : hlS (hlI) (wtI) a.par (k + wtS (wtS wtI) a.bags) = false := by simpa using c1
    simp [c1', hex]
  have hn1 : ¬ k + wtS (wtS wtI) a.bags + (wtS wtI a.par : Int) < 0 := by omega
  simp [c1, hn1]
  simp [hex, c0, c1, hwt]
  try omega

end Go.Proofs.YtpbcmlolapdfjaaGreatDoor


namespace Go.Proofs.YtpbcmlolapdfjaaGreatDoor
open Go.Vs Go.Proofs Go
set_option maxRecDepth 100000
set_option maxHeartbeats 1000000

theorem w_laws_markIntS (a : Ints) (k : Int) (h0 : 1 ≤ k) (h1 : k + wtS wtI a ≤ 4611686018427387904) (hw : whS whI a) (hl0 : okS okI a) (hnd : (dInts a).ids.Nodup) :
   VX Tryz.prog 30 (dInts a).ids [.d (dInts a), .d (.int .i64 k)] none (fun _ r _ ws => r = .d (.int .i64 (k + wtS wtI a)) ∧ ws = [dInts (mkS mkI wtI a k)]) := by
  refine VX.of E s30 (by kernel_rfl) Tryz.func30 (by rfl) (by kernel_rfl) (by simp [Tryz.f30]) (by simp [Tryz.f30]) s30_ok (fun g hg => .inl (by simpa using hg)) (fun cs h => nomatch h) fun B hB => ?_
  have hl := hl0.1
  obtain ⟨id, T, xs⟩ := a
  have hwt : wtS wtI (⟨id, T, xs⟩ : Ints) = xs.length := sumW_one (fun _ => rfl) xs
  rw [hwt] at h1 ⊢
  simp only [maxLen] at hl
  simp [Tryz.f30]
  refine loop_rule (X := Nat) (fun i => i ≤ xs.length) (fun i => [(0, .d (dInts ⟨id, T, mkAt mkI wtI xs k i⟩)), (1, .d (.int .i64 (k + i))), (5, .d (.int .i64 i))]) (fun _ => []) (fun i => xs.length - i) 0 (by simp) (by simp) (by simp) ?_
  intro i hs t m hi hh
  by_cases hlt : i < xs.length
  · obtain ⟨g, hg, T', hT⟩ := hw.1.id hlt
    simp only at hg hT
    subst hg hT
    have hk := wr1 (i := i) (by omega)
    have hk2 : IntKind.i64.wrap (k + i + 1) = k + i + 1 := wrap64_of (by omega) (by omega)
    simp [dInts, dSl, hlt, hk, hk2, cI]
    refine back (i + 1) (by omega) (by omega) rfl (by simp) ?_ (by simp)
    have e1 : (List.map cI (mkAt mkI wtI xs k i)).set i [D.int IntKind.i64 (k + ↑i)] = List.map cI (mkAt mkI wtI xs k (i + 1)) := by
      rw [mkAt_succ hlt, ← set_map, show sumW wtI (List.take i xs) = _ from sumW_one (fun _ => rfl) _]
      simp [cI, mkI, Nat.min_eq_left hi]
    have e2 := re_oneSet (g := g) (T := T') (es := List.map cI (mkAt mkI wtI xs k i)) (i := i) (e' := [D.int IntKind.i64 (k + ↑i)]) (fun e he => by
      rw [List.getElem?_map] at he
      simp [hlt] at he
      rw [← he]; rfl)
    rw [e1] at e2
    simp [e1, e2]
    omega
  · have hn : i = xs.length := by omega
    subst hn
    simp [dInts, dSl, vendX]
    refine ⟨[0], fun γ hs' h1 h2 => ?_⟩
    simp [mkS, mkAt_all]

theorem w_laws_markIntSS (a : Sl Ints) (k : Int) (h0 : 1 ≤ k) (h1 : k + wtS (wtS wtI) a ≤ 4611686018427387904) (hw : whS (whS whI) a) (hl : okS (okS okI) a) (hnd : (dRows a).ids.Nodup) :
   VX Tryz.prog 31 (dRows a).ids [.d (dRows a), .d (.int .i64 k)] none (fun _ r _ ws => r = .d (.int .i64 (k + wtS (wtS wtI) a)) ∧ ws = [dRows (mkS (mkS mkI wtI) (wtS wtI) a k)]) := by
  refine VX.of E s31 (by kernel_rfl) Tryz.func31 (by rfl) (by kernel_rfl) (by simp [Tryz.f31]) (by simp [Tryz.f31]) s31_ok (fun g hg => .inl (by simpa using hg)) (fun cs h => nomatch h) fun B hB => ?_
  obtain ⟨id, T, xs⟩ := a
  have hl1 := hl.1
  simp only [maxLen] at hl1
  have hwt : wtS (wtS wtI) (⟨id, T, xs⟩ : Sl Ints) = sumW (wtS wtI) xs := rfl
  rw [hwt] at h1 ⊢
  simp [Tryz.f31]
  refine loop_rule (X := Nat) (fun i => i ≤ xs.length) (fun i => [(0, .d (dSl (cS cI) ⟨id, T, mkAt (mkS mkI wtI) (wtS wtI) xs k i⟩)), (1, .d (.int .i64 (k + sumW (wtS wtI) (xs.take i)))), (5, .d (.int .i64 i))]) (fun _ => []) (fun i => xs.length - i) 0 (by simp) (by simp) (by simp) ?_
  intro i hs t m hi hh
  by_cases hlt : i < xs.length
  · have hk := wr1 (i := i) (by omega)
    have e1 := sumW_succ (wtS wtI) hlt
    have e2 := sumW_le (wtS wtI) xs (i + 1)
    have hmem : xs[i] ∈ xs := List.getElem_mem _
    simp [dSl, hlt, cS]
    refine call_x (E30) (by simp [dSl]) (by simp) (by simp) (fun g hg => .inr ?_) (w_laws_markIntS xs[i] (k + sumW (wtS wtI) (xs.take i)) (by omega) (by omega) (hw.2 _ hmem) (hl.2 _ hmem) (by have := elem_nd (sl_nd hnd).1 hlt; rwa [idsL_cS] at this)) fun n hs' r cs' ws hn hn' hp hr hws => ?_
    · exact elem_ids (s := ⟨id, T, xs⟩) (c := cS cI) (i := i) hlt (by simpa [cS, idsL] using hg)
    obtain ⟨rfl, rfl⟩ := hp
    simp at hn
    have hnd' : (dSl (cS cI) (⟨id, T, mkAt (mkS mkI wtI) (wtS wtI) xs k i⟩ : Sl Ints)).ids.Nodup := by
      have : (dSl (cS cI) (⟨id, T, mkAt (mkS mkI wtI) (wtS wtI) xs k i⟩ : Sl Ints)).ids = (dRows ⟨id, T, xs⟩).ids := by
        simp only [dSl, D.ids]; rw [ids_mkAt (marksS marksI).ids]
      rw [this]; exact hnd
    have e3 := re_elem (c := cS cI) (s := ⟨id, T, mkAt (mkS mkI wtI) (wtS wtI) xs k i⟩) (i := i) (a' := mkS mkI wtI xs[i] (k + sumW (wtS wtI) (xs.take i))) (W := (dInts xs[i]).ids) (ws := [dInts (mkS mkI wtI xs[i] (k + sumW (wtS wtI) (xs.take i)))]) hnd' (by simpa using hlt)
      (fun g hg => by simpa [cS, idsL] using hg) (by simp only [mkAt_get]; exact reL_one (re_root (by simp [cI]) (hw.2 _ hmem).1 (by simp) (fun g hg => mem_slids hg) []))
    simp [dSl, cS, hk] at e3 ⊢
    refine back (i + 1) (by omega) (by omega) rfl (by simp <;> omega) ?_ (by simp)
    simp [e3, mkAt_succ hlt, e1]
    exact ⟨rfl, by omega⟩
  · have hn : i = xs.length := by omega
    subst hn
    simp [dSl, vendX]
    refine ⟨[0], fun γ hs' h1 h2 => ?_⟩
    simp [mkS, mkAt_all]

end Go.Proofs.YtpbcmlolapdfjaaGreatDoor


namespace Go.Proofs.YtpbcmlolapdfjaaGreatDoor
open Go.Vs Go.Proofs Go
set_option maxRecDepth 100000
set_option maxHeartbeats 1000000

theorem w_laws_markAtomS (a : Sl (Atom)) (k : Int) (h0 : 1 ≤ k) (h1 : k + wtS wtAtom a ≤ 4611686018427387904) (hw : whS whAtom a) (hl : okS okAtom a) (hnd : (dSl cAtom a).ids.Nodup) :
   VX Tryz.prog 29 (dSl cAtom a).ids [.d (dSl cAtom a), .d (.int .i64 k)] none (fun _ r _ ws => r = .d (.int .i64 (k + wtS wtAtom a)) ∧ ws = [dSl cAtom (mkS (mkAtom) (wtAtom) a k)]) := by
  refine VX.of E s29 (by kernel_rfl) Tryz.func29 (by rfl) (by kernel_rfl) (by simp [Tryz.f29]) (by simp [Tryz.f29]) s29_ok ?_ ?_ fun B hB => ?_
  · exact fun g hg => .inl (by simpa using hg)
  · exact fun cs h => nomatch h
  obtain ⟨id, T, xs⟩ := a
  have hl1 := hl.1
  simp only [maxLen] at hl1
  have hwt : wtS wtAtom (⟨id, T, xs⟩ : Sl (Atom)) = sumW wtAtom xs := rfl
  rw [hwt] at h1 ⊢
  simp [Tryz.f29]
  refine loop_rule (X := Nat) (fun i => i ≤ xs.length) (fun i => [(0, .d (dSl cAtom ⟨id, T, mkAt mkAtom wtAtom xs k i⟩)), (1, .d (.int .i64 (k + sumW wtAtom (xs.take i)))), (5, .d (.int .i64 i))]) (fun _ => []) (fun i => xs.length - i) 0 (by simp) (by simp) (by simp) ?_
  intro i hs t m hi hh
  by_cases hlt : i < xs.length
  · have hwi := wr1 (i := i) (by omega)
    have e1 := sumW_succ wtAtom hlt
    have e2 := sumW_le wtAtom xs (i + 1)
    have hmem : xs[i] ∈ xs := List.getElem_mem _
    have hwx : wtAtom xs[i] = 1 + wtS wtI xs[i].vars := by simp only [wtAtom, wtStr] <;> omega
    obtain ⟨g, hg, T', hT⟩ := hw.1.id hlt
    simp only at hg hT
    subst hg hT
    have hnd2 := sl_nd hnd
    have hnn : g ∉ idsLL ((mkAt mkAtom wtAtom xs k i).map cAtom) := by rw [ids_mkAt marksAtom.ids]; exact hnd2.2 g rfl
    have hni : g ∉ idsL (cAtom xs[i]) := fun hin => hnd2.2 g rfl (idsLL_map_mem.2 ⟨_, hmem, hin⟩)
    have hne := elem_nd hnd2.1 hlt
    have hni0 := hni
    have hne0 := hne
    have hap : ∀ W : List Nat, (∀ q ∈ W, q ∈ idsL (cAtom xs[i])) → ∀ ws (j : Nat) (e : List D), j ≠ i → ((mkAt mkAtom wtAtom xs k i).map cAtom)[j]? = some e → ∀ q ∈ idsL e, phi W ws q = none := by
      intro W hW ws
      exact nd_mapD (by rw [ids_mkAt marksAtom.ids]; exact hnd2.1) (i := i) (by simpa using hlt) (by simpa using hW) ws
    simp only [cAtom, cS, cStr, idsL_app, idsL, D.ids, dSl, List.append_nil, List.nil_append, List.cons_append, List.mem_append, not_or, List.append_assoc] at hni hne
    simp [dSl, hlt]
    have hk0 : IntKind.i64.wrap (k + sumW wtAtom (xs.take i) + 1) = k + sumW wtAtom (xs.take i) + 1 := wrap64_of (by omega) (by omega)
    refine call_pure (w_laws_markText _ (by omega) (by omega)) rfl (by simp) rfl fun hs0 hh0 => ?_
    simp at hh0
    simp [dSl, hlt, cAtom, cS, cStr, hnn, nin_set hnn, idsL, D.ids, hni, hk0, hwi, ids_mk (wt := wtI) marksI.ids]
    have hx1 : dSl cI xs[i].vars ∈ cAtom xs[i] := by simp [cAtom, cS, cStr]
    refine call_x (E30) (by simp [dSl]) (by simp) (by simp) (fun q hq => .inr ?_) (w_laws_markIntS xs[i].vars (k + sumW wtAtom (xs.take i) + 1) (by omega) (by omega) ((hw.2 _ hmem).2) ((hl.2 _ hmem).2) (nd_mem hne0 hx1)) fun n1 hs1 r cs' ws hn1 hm1 hp hr hws => ?_
    · exact elem_ids (s := ⟨some g, some T', xs⟩) (c := cAtom) (i := i) hlt (mem_idsL hx1 hq)
    obtain ⟨rfl, rfl⟩ := hp
    simp at hn1
    have hre1 : reL (phi (dSl cI xs[i].vars).ids [dSl cI (mkS (mkI) (wtI) xs[i].vars (k + sumW wtAtom (xs.take i) + 1))]) [D.str (mtext (k + sumW wtAtom (xs.take i))), dSl cI xs[i].vars] = some [D.str (mtext (k + sumW wtAtom (xs.take i))), dSl cI (mkS (mkI) (wtI) xs[i].vars (k + sumW wtAtom (xs.take i) + 1))] := reL_cons_iff.2 ⟨rfl, reL_cons_iff.2 ⟨re_root marksI.len ((hw.2 _ hmem).2).1 (by simp) (fun g hg => mem_slids hg) [], rfl⟩⟩
    have hse1 := re_elemD (g := g) (T := some T') (es := (mkAt mkAtom wtAtom xs k i).map cAtom) (phi_out (W := (dSl cI xs[i].vars).ids) (ws := [dSl cI (mkS (mkI) (wtI) xs[i].vars (k + sumW wtAtom (xs.take i) + 1))]) (g := g) (fun h => hni0 (mem_idsL hx1 h))) hre1 (hap _ (fun q hq => mem_idsL hx1 hq) _)
    simp [dSl, cAtom, cS, cStr, mkS] at hse1 ⊢
    simp [hse1, hlt, hnn, nin_set hnn, idsL, D.ids, hni, hwi, mkS, ids_mk (wt := wtI) marksI.ids]
    refine back (i + 1) (by omega) (by omega) rfl (by simp <;> omega) ?_ (by simp)
    simp [mkAt_succ hlt, e1, cAtom, cS, cStr, dSl]
    first
    | exact ⟨rfl, by omega⟩
    | (refine ⟨?_, by omega⟩; simp [mkAtom, mkStr, wtAtom, wtStr, mkS, Int.add_assoc, show ∀ x : Int, 1 + (1 + x) = 2 + x from fun x => by omega])
  · have hn : i = xs.length := by omega
    subst hn
    simp [dSl, vendX]
    refine ⟨[0], fun γ hs' h1 h2 => ?_⟩
    simp [mkS, mkAt_all]
theorem simT_Query {a : Query} (hw : whQuery a) (k : Int) : Sim (cQuery a) (cQuery (mkTQuery a k)) := ((Sim.leaf (by simp [D.ids]) Sim.nil).app (sim_mk marksAtom hw.2.1 (k))).app (sim_mk marksI hw.2.2 (k + wtS wtAtom a.atoms))
theorem w_laws_markQuery (a : Query) (k : Int) (h0 : 1 ≤ k) (h1 : k + wtTQuery a ≤ 4611686018427387904) (hw : whQuery a) (hl : okQuery a) (hnd : (idsL (cQuery a)).Nodup) :
   VX Tryz.prog 11 (idsL (cQuery a)) [.agg ((cQuery a).map V.d), .d (.int .i64 k)] none (fun _ r _ ws => r = .d (.int .i64 (k + wtTQuery a)) ∧ ws = cQuery (mkTQuery a k)) := by
  refine VX.of E s11 (by kernel_rfl) Tryz.func11 (by rfl) (by kernel_rfl) (by simp [Tryz.f11]) (by simp [Tryz.f11]) s11_ok ?_ ?_ fun B hB => ?_
  · exact fun g hg => .inl (by simpa [idsVL, V.ids, idsVL_map_d] using hg)
  · exact fun cs h => nomatch h
  have hwt : wtTQuery a = wtS wtAtom a.atoms + wtS wtI a.out := rfl
  have hnd0 := hnd
  simp only [cQuery, idsL_app] at hnd0
  have nd0 : (idsL (cI a.n)).Nodup := nd_left (nd_left (hnd0))
  have nd1 : (idsL (cS cAtom a.atoms)).Nodup := nd_right (nd_left (hnd0))
  have nd2 : (idsL (cS cI a.out)).Nodup := nd_right (hnd0)
  have dj0_1 : ∀ g ∈ idsL (cI a.n), g ∉ idsL (cS cAtom a.atoms) := fun g hg => nd_disj (nd_left (hnd0)) g (hg)
  have dj0_2 : ∀ g ∈ idsL (cI a.n), g ∉ idsL (cS cI a.out) := fun g hg => nd_disj (hnd0) g (List.mem_append_left _ (hg))
  have dj1_2 : ∀ g ∈ idsL (cS cAtom a.atoms), g ∉ idsL (cS cI a.out) := fun g hg => nd_disj (hnd0) g (List.mem_append_right _ hg)
  simp [Tryz.f11, cI, cQuery, cS]
  refine call_x (E29) (by simp) (by simp) (by simp) (fun q hq => .inr ?_) (w_laws_markAtomS a.atoms (k) (by omega) (by omega) (hw.2.1) (hl.2.1) (by rw [← idsL_cS]; exact nd1)) fun n0 hs0 r cs' ws hn0 hm0 hp hr hws => ?_
  · simp only [idsL_app, idsL, List.append_nil, List.nil_append, List.append_assoc, List.mem_append, cI, cQuery, cS] at hq ⊢
    first | (simp [hq]; done) | (simp [D.ids] at hq ⊢; grind)
  obtain ⟨rfl, rfl⟩ := hp
  simp at hn0
  have hre0 : reL (phi ((dSl cAtom a.atoms).ids) [dSl cAtom (mkS (mkAtom) (wtAtom) a.atoms (k))]) (cS cAtom a.atoms) = some (cS cAtom (mkS (mkAtom) (wtAtom) a.atoms (k))) := by
    have := re_sim (sim_mk marksAtom hw.2.1 (k)) ((marksS marksAtom).ids _ _) nd1
    rw [idsL_cS] at this
    exact this
  have ho0_2 : reL (phi ((dSl cAtom a.atoms).ids) [dSl cAtom (mkS (mkAtom) (wtAtom) a.atoms (k))]) (cS cI a.out) = some (cS cI a.out) := re_same fun g hg => by
    rw [← idsL_cS] at hg
    skip
    exact dj1_2 g hg
  replace hre0 := reVL_map hre0
  replace ho0_2 := reVL_map ho0_2
  simp only [cI, cQuery, cS, List.cons_append, List.nil_append, List.map_cons, List.map_nil, reVL_cons, reVL_nil, List.cons.injEq, and_true, reV_int, reV_str, true_and] at hre0 ho0_2
  simp [hre0, ho0_2, cI, cQuery, cS]
  refine call_x (E30) (by simp) (by simp) (by simp) (fun q hq => .inr ?_) (w_laws_markIntS a.out (k + wtS wtAtom a.atoms) (by omega) (by omega) (hw.2.2) (hl.2.2) (by rw [← idsL_cS]; exact nd2)) fun n1 hs1 r cs' ws hn1 hm1 hp hr hws => ?_
  · simp only [idsL_app, idsL, List.append_nil, List.nil_append, List.append_assoc, List.mem_append, cI, cQuery, cS] at hq ⊢
    first | (simp [hq]; done) | (simp [D.ids] at hq ⊢; grind)
  obtain ⟨rfl, rfl⟩ := hp
  simp at hn1
  have hre1 : reL (phi ((dSl cI a.out).ids) [dSl cI (mkS (mkI) (wtI) a.out (k + wtS wtAtom a.atoms))]) (cS cI a.out) = some (cS cI (mkS (mkI) (wtI) a.out (k + wtS wtAtom a.atoms))) := by
    have := re_sim (sim_mk marksI hw.2.2 (k + wtS wtAtom a.atoms)) ((marksS marksI).ids _ _) nd2
    rw [idsL_cS] at this
    exact this
  have ho1_1 : reL (phi ((dSl cI a.out).ids) [dSl cI (mkS (mkI) (wtI) a.out (k + wtS wtAtom a.atoms))]) (cS cAtom (mkS (mkAtom) (wtAtom) a.atoms (k))) = some (cS cAtom (mkS (mkAtom) (wtAtom) a.atoms (k))) := re_same fun g hg => by
    rw [← idsL_cS] at hg
    rw [(marksS marksAtom).ids]
    exact (fun h => dj1_2 g h hg)
  replace hre1 := reVL_map hre1
  replace ho1_1 := reVL_map ho1_1
  simp only [cI, cQuery, cS, List.cons_append, List.nil_append, List.map_cons, List.map_nil, reVL_cons, reVL_nil, List.cons.injEq, and_true, reV_int, reV_str, true_and] at hre1 ho1_1
  simp [hre1, ho1_1, cI, cQuery, cS]
  simp [vendX]
  refine ⟨[0], fun γ hs' h1 h2 => ?_⟩
  simp [isD, dD, hwt, mkTQuery, cI, cQuery, cS, reD]
  try omega
theorem simT_Dec {a : Dec} (hw : whDec a) (k : Int) : Sim (cDec a) (cDec (mkTDec a k)) := (sim_mk (marksS marksI) hw.1 (k)).app (sim_mk marksI hw.2 (k + wtS (wtS wtI) a.bags))
theorem w_laws_markDecomposition (a : Dec) (k : Int) (h0 : 1 ≤ k) (h1 : k + wtTDec a ≤ 4611686018427387904) (hw : whDec a) (hl : okDec a) (hnd : (idsL (cDec a)).Nodup) :
   VX Tryz.prog 12 (idsL (cDec a)) [.agg ((cDec a).map V.d), .d (.int .i64 k)] none (fun _ r _ ws => r = .d (.int .i64 (k + wtTDec a)) ∧ ws = cDec (mkTDec a k)) := by
  refine VX.of E s12 (by kernel_rfl) Tryz.func12 (by rfl) (by kernel_rfl) (by simp [Tryz.f12]) (by simp [Tryz.f12]) s12_ok ?_ ?_ fun B hB => ?_
  · exact fun g hg => .inl (by simpa [idsVL, V.ids, idsVL_map_d] using hg)
  · exact fun cs h => nomatch h
  have hwt : wtTDec a = wtS (wtS wtI) a.bags + wtS wtI a.par := rfl
  have hnd0 := hnd
  simp only [cDec, idsL_app] at hnd0
  have nd0 : (idsL (cS (cS cI) a.bags)).Nodup := nd_left (hnd0)
  have nd1 : (idsL (cS cI a.par)).Nodup := nd_right (hnd0)
  have dj0_1 : ∀ g ∈ idsL (cS (cS cI) a.bags), g ∉ idsL (cS cI a.par) := fun g hg => nd_disj (hnd0) g (hg)
  simp [Tryz.f12, cDec, cS]
  refine call_x (E31) (by simp) (by simp) (by simp) (fun q hq => .inr ?_) (w_laws_markIntSS a.bags (k) (by omega) (by omega) (hw.1) (hl.1) (by rw [← idsL_cS]; exact nd0)) fun n0 hs0 r cs' ws hn0 hm0 hp hr hws => ?_
  · simp only [idsL_app, idsL, List.append_nil, List.nil_append, List.append_assoc, List.mem_append, cDec, cS] at hq ⊢
    first | (simp [hq]; done) | (simp [D.ids] at hq ⊢; grind)
  obtain ⟨rfl, rfl⟩ := hp
  simp at hn0
  have hre0 : reL (phi ((dSl (cS cI) a.bags).ids) [dSl (cS cI) (mkS (mkS (mkI) (wtI)) (wtS wtI) a.bags (k))]) (cS (cS cI) a.bags) = some (cS (cS cI) (mkS (mkS (mkI) (wtI)) (wtS wtI) a.bags (k))) := by
    have := re_sim (sim_mk (marksS marksI) hw.1 (k)) ((marksS (marksS marksI)).ids _ _) nd0
    rw [idsL_cS] at this
    exact this
  have ho0_1 : reL (phi ((dSl (cS cI) a.bags).ids) [dSl (cS cI) (mkS (mkS (mkI) (wtI)) (wtS wtI) a.bags (k))]) (cS cI a.par) = some (cS cI a.par) := re_same fun g hg => by
    rw [← idsL_cS] at hg
    skip
    exact dj0_1 g hg
  replace hre0 := reVL_map hre0
  replace ho0_1 := reVL_map ho0_1
  simp only [cDec, cS, List.cons_append, List.nil_append, List.map_cons, List.map_nil, reVL_cons, reVL_nil, List.cons.injEq, and_true, reV_int, reV_str, true_and] at hre0 ho0_1
  simp [hre0, ho0_1, cDec, cS]
  refine call_x (E30) (by simp) (by simp) (by simp) (fun q hq => .inr ?_) (w_laws_markIntS a.par (k + wtS (wtS wtI) a.bags) (by omega) (by omega) (hw.2) (hl.2) (by rw [← idsL_cS]; exact nd1)) fun n1 hs1 r cs' ws hn1 hm1 hp hr hws => ?_
  · simp only [idsL_app, idsL, List.append_nil, List.nil_append, List.append_assoc, List.mem_append, cDec, cS] at hq ⊢
    first | (simp [hq]; done) | (simp [D.ids] at hq ⊢; grind)
  obtain ⟨rfl, rfl⟩ := hp
  simp at hn1
  have hre1 : reL (phi ((dSl cI a.par).ids) [dSl cI (mkS (mkI) (wtI) a.par (k + wtS (wtS wtI) a.bags))]) (cS cI a.par) = some (cS cI (mkS (mkI) (wtI) a.par (k + wtS (wtS wtI) a.bags))) := by
    have := re_sim (sim_mk marksI hw.2 (k + wtS (wtS wtI) a.bags)) ((marksS marksI).ids _ _) nd1
    rw [idsL_cS] at this
    exact this
  have ho1_0 : reL (phi ((dSl cI a.par).ids) [dSl cI (mkS (mkI) (wtI) a.par (k + wtS (wtS wtI) a.bags))]) (cS (cS cI) (mkS (mkS (mkI) (wtI)) (wtS wtI) a.bags (k))) = some (cS (cS cI) (mkS (mkS (mkI) (wtI)) (wtS wtI) a.bags (k))) := re_same fun g hg => by
    rw [← idsL_cS] at hg
    rw [(marksS (marksS marksI)).ids]
    exact (fun h => dj0_1 g h hg)
  replace hre1 := reVL_map hre1
  replace ho1_0 := reVL_map ho1_0
  simp only [cDec, cS, List.cons_append, List.nil_append, List.map_cons, List.map_nil, reVL_cons, reVL_nil, List.cons.injEq, and_true, reV_int, reV_str, true_and] at hre1 ho1_0
  simp [hre1, ho1_0, cDec, cS]
  simp [vendX]
  refine ⟨[0], fun γ hs' h1 h2 => ?_⟩
  simp [isD, dD, hwt, mkTDec, cDec, cS, reD]
  try omega

end Go.Proofs.YtpbcmlolapdfjaaGreatDoor


namespace Go.Proofs.YtpbcmlolapdfjaaGreatDoor
open Go.Vs Go.Proofs Go
set_option maxRecDepth 100000
set_option maxHeartbeats 1000000

attribute [simp] plI_id plStr_id map_plI map_plStr pS cP cI cStr cU8 cB
theorem w_impl_within (n lo hi : Int) : VC Tryz.prog 65 [.d (.int .i64 n), .d (.int .i64 lo), .d (.int .i64 hi)] (fun _ r => r = .d (.bool (inR n lo hi))) := by
  refine VC.ofL EP s65 (by kernel_rfl) Tryz.func65 (by rfl) (by kernel_rfl) (by simp [Tryz.f65]) (by simp [Tryz.f65]) s65_ok fun B hl => ?_
  by_cases h : lo ≤ n
  · simp [Tryz.f65, inR, h]
  · simp [Tryz.f65, inR, h]
theorem w_spec_l1In (n lo hi : Int) : VC Tryz.prog 57 [.d (.int .i64 n), .d (.int .i64 lo), .d (.int .i64 hi)] (fun _ r => r = .d (.bool (inR n lo hi))) := by
  refine VC.ofL EP s57 (by kernel_rfl) Tryz.func57 (by rfl) (by kernel_rfl) (by simp [Tryz.f57]) (by simp [Tryz.f57]) s57_ok fun B hl => ?_
  by_cases h : lo ≤ n
  · simp [Tryz.f57, inR, h]
  · simp [Tryz.f57, inR, h]

end Go.Proofs.YtpbcmlolapdfjaaGreatDoor


namespace Go.Proofs.YtpbcmlolapdfjaaGreatDoor
open Go.Vs Go.Proofs Go
set_option maxRecDepth 100000
set_option maxHeartbeats 1000000

theorem w_impl_compareInts (x y : Int) : VC Tryz.prog 54 [.d (.int .i64 x), .d (.int .i64 y)] (fun _ r => r = .d (.int .i64 (if x < y then -1 else if y < x then 1 else 0))) := by
  refine VC.ofL EP s54 (by kernel_rfl) Tryz.func54 (by rfl) (by kernel_rfl) (by simp [Tryz.f54]) (by simp [Tryz.f54]) s54_ok fun B hl => ?_
  by_cases h1 : x < y
  · simp [Tryz.f54, h1]
  · by_cases h2 : y < x <;> simp [Tryz.f54, h1, h2]

end Go.Proofs.YtpbcmlolapdfjaaGreatDoor


namespace Go.Proofs.YtpbcmlolapdfjaaGreatDoor
open Go.Vs Go.Proofs Go
set_option maxRecDepth 100000
set_option maxHeartbeats 1000000

section
attribute [local simp] plI_id plStr_id map_plI map_plStr pS cP cI cStr cU8 cB
theorem w_spec_l7Find (l : List Int) (v : Int) : VC Tryz.prog 39 [.d (pS cI l), .d (.int .i64 v)] (fun _ r => r = .d (.int .i64 (idxL l v))) := by
  refine VC.ofL EP s39 (by kernel_rfl) Tryz.func39 (by rfl) (by kernel_rfl) (by simp [Tryz.f39]) (by simp [Tryz.f39]) s39_ok fun B hl => ?_
  simp [pS, maxLen] at hl
  simp [Tryz.f39, ]
  refine loop_rule (X := Nat) (fun i => i ≤ l.length ∧ AllTo (fun x => !(x == v)) l i) (fun i => [(0, .d (.pl (l.map cI))), (1, .d (.int .i64 v)), (5, .d (.int .i64 i))]) (fun _ => []) (fun i => l.length - i) 0 ⟨by simp, allTo_zero⟩ (by simp) (by simp) ?_
  intro i hs t m hi hh
  by_cases hlt : i < l.length
  · have hwi := wr1 (i := i) (by omega)
    by_cases he : l[i] = v
    · have hx := idxL_at hi.2 hlt he
      simp [hlt, he, hx, ]
    · simp [hlt, he, hwi, ]
      exact back (i + 1) ⟨by omega, allTo_step hi.2 hlt (by simp [he])⟩ (by omega) rfl (by simp <;> omega) (by simp) (by simp)
  · have hx := (idxL_no (allTo_done hi.2 (by omega))).2
    simp [hlt, hx]
theorem w_impl_indexOf (l : List Int) (v : Int) : VC Tryz.prog 68 [.d (pS cI l), .d (.int .i64 v)] (fun _ r => r = .d (.int .i64 (idxL l v))) := by
  refine VC.ofL EP s68 (by kernel_rfl) Tryz.func68 (by rfl) (by kernel_rfl) (by simp [Tryz.f68]) (by simp [Tryz.f68]) s68_ok fun B hl => ?_
  simp [pS, maxLen] at hl
  simp [Tryz.f68, ]
  refine loop_rule (X := Nat) (fun i => i ≤ l.length ∧ AllTo (fun x => !(x == v)) l i) (fun i => [(1, .d (.int .i64 v)), (7, .d (.pl (l.map cI))), (8, .d (.int .i64 l.length)), (9, .d (.int .i64 i))]) (fun _ => []) (fun i => l.length - i) 0 ⟨by simp, allTo_zero⟩ (by simp) (by simp) ?_
  intro i hs t m hi hh
  by_cases hlt : i < l.length
  · have hwi := wr1 (i := i) (by omega)
    by_cases he : l[i] = v
    · have hx := idxL_at hi.2 hlt he
      simp [hlt, he, hx, ]
    · simp [hlt, he, hwi, ]
      exact back (i + 1) ⟨by omega, allTo_step hi.2 hlt (by simp [he])⟩ (by omega) rfl (by simp <;> omega) (by simp) (by simp)
  · have hx := (idxL_no (allTo_done hi.2 (by omega))).2
    simp [hlt, hx]
theorem w_impl_hasInt (l : List Int) (v : Int) : VC Tryz.prog 44 [.d (pS cI l), .d (.int .i64 v)] (fun _ r => r = .d (.bool (l.contains v))) := by
  refine VC.ofL EP s44 (by kernel_rfl) Tryz.func44 (by rfl) (by kernel_rfl) (by simp [Tryz.f44]) (by simp [Tryz.f44]) s44_ok fun B hl => ?_
  rw [← idxL_ge]
  simp [Tryz.f44, ]
  refine call_f (w_impl_indexOf l v) (by simp) rfl fun hs1 hh1 => ?_
  simp
theorem w_spec_ContainsVariable (a : PAtom) (v : Int) : VC Tryz.prog 59 [.agg ((eAtom a).map V.d), .d (.int .i64 v)] (fun _ r => r = .d (.bool (a.vars.contains v))) := by
  refine VC.ofL EP s59 (by kernel_rfl) Tryz.func59 (by rfl) (by kernel_rfl) (by simp [Tryz.f59]) (by simp [Tryz.f59]) s59_ok fun B hl => ?_
  obtain ⟨nm, l⟩ := a
  simp [pS, maxLen, eAtom] at hl
  simp [Tryz.f59, eAtom]
  refine loop_rule (X := Nat) (fun i => i ≤ l.length ∧ AllTo (fun x => !(x == v)) l i) (fun i => [(1, .d (.int .i64 v)), (2, .ptr 2 0 0), (5, .d (.int .i64 i))]) (fun _ => [(2, some (.box [.d (.str nm), .d (.pl (l.map cI))]))]) (fun i => l.length - i) 0 ⟨by simp, allTo_zero⟩ (by simp) (by simp) ?_
  intro i hs t m hi hh
  by_cases hlt : i < l.length
  · have hwi := wr1 (i := i) (by omega)
    by_cases he : l[i] = v
    · have hx : v ∈ l := he ▸ List.getElem_mem hlt
      simp [hlt, he, hx, ]
    · simp [hlt, he, hwi, ]
      exact back (i + 1) ⟨by omega, allTo_step hi.2 hlt (by simp [he])⟩ (by omega) rfl (by simp <;> omega) (by simp) (by simp)
  · have hx := (idxL_no (allTo_done hi.2 (by omega))).1
    simp [hlt, hx]
theorem w_impl_ContainsVariable (a : PAtom) (v : Int) : VC Tryz.prog 69 [.agg ((eAtom a).map V.d), .d (.int .i64 v)] (fun _ r => r = .d (.bool (a.vars.contains v))) := by
  refine VC.ofL EP s69 (by kernel_rfl) Tryz.func69 (by rfl) (by kernel_rfl) (by simp [Tryz.f69]) (by simp [Tryz.f69]) s69_ok fun B hl => ?_
  simp [Tryz.f69, eAtom]
  refine call_f (w_impl_hasInt a.vars v) (by simp) rfl fun hs1 hh1 => ?_
  simp
theorem w_impl_isLetters (s : List UInt8) : VC Tryz.prog 80 [.d (.str s), .d (.int .i64 4)] (fun _ r => r = .d (.bool (nameOk s))) := by
  refine VC.ofL EP s80 (by kernel_rfl) Tryz.func80 (by rfl) (by kernel_rfl) (by simp [Tryz.f80]) (by simp [Tryz.f80]) s80_ok fun B hl => ?_
  by_cases h1 : (s.length : Int) < 1
  · have : s = [] := List.length_eq_zero_iff.1 (by omega)
    subst this
    simp [Tryz.f80, nameOk_len]
  by_cases h4 : (4 : Int) < s.length
  · have : nameOk s = false := nameOk_len (by omega)
    simp [Tryz.f80, h1, h4, this]
  have hlen : 1 ≤ s.length ∧ s.length ≤ 4 := by omega
  simp [Tryz.f80, h1, h4]
  refine loop_rule (X := Nat) (fun i => i ≤ s.length ∧ AllTo lowB s i) (fun i => [(0, .d (.str s)), (5, .d (.int .i64 i))]) (fun _ => []) (fun i => s.length - i) 0 ⟨by simp, allTo_zero⟩ (by simp) (by simp) ?_
  intro i hs t m hi hh
  by_cases hlt : i < s.length
  · have hwi := wr1 (i := i) (by omega)
    by_cases ha : ((s[i]).toNat : Int) < 97
    · have hbad := nameOk_bad (all_bad (p := lowB) hlt (lowB_lo ha))
      simp [hlt, ha, hbad, ]
    · by_cases hz : (122 : Int) < ((s[i]).toNat : Int)
      · have hbad := nameOk_bad (all_bad (p := lowB) hlt (lowB_hi hz))
        simp [hlt, ha, hz, hbad, ]
      · simp [hlt, ha, hz, hwi, ]
        exact back (i + 1) ⟨by omega, allTo_step hi.2 hlt (lowB_ok ha hz)⟩ (by omega) rfl (by simp <;> omega) (by simp) (by simp)
  · have hd := allTo_done hi.2 (by omega)
    have hd2 : nameOk s = true := by rw [nameOk_ok hd, decide_eq_true hlen]
    simp [hlt, hd2]
theorem w_impl_IsValidName (s : List UInt8) : VC Tryz.prog 67 [.d (.str s)] (fun _ r => r = .d (.bool (nameOk s))) := by
  refine VC.ofL EP s67 (by kernel_rfl) Tryz.func67 (by rfl) (by kernel_rfl) (by simp [Tryz.f67]) (by simp [Tryz.f67]) s67_ok fun B hl => ?_
  simp [Tryz.f67, ]
  refine call_f (w_impl_isLetters s) (by simp) rfl fun hs1 hh1 => ?_
  simp
theorem w_spec_IsValidName (s : List UInt8) (hb : s.length ≤ maxLen) : VC Tryz.prog 58 [.d (.str s)] (fun _ r => r = .d (.bool (nameOk s))) := by
  refine VC.ofL EP s58 (by kernel_rfl) Tryz.func58 (by rfl) (by kernel_rfl) (by simp [Tryz.f58]) (by simp [Tryz.f58]) s58_ok fun B hl => ?_
  simp only [maxLen] at hb
  simp [Tryz.f58, ]
  refine loop_rule (X := Nat) (fun i => i ≤ s.length ∧ AllTo lowB s i) (fun i => [(0, .d (.str s)), (3, .d (.int .i64 i))]) (fun _ => []) (fun i => s.length - i) 0 ⟨by simp, allTo_zero⟩ (by simp) (by simp) ?_
  intro i hs t m hi hh
  by_cases hlt : i < s.length
  · have hwi := wr1 (i := i) (by omega)
    by_cases ha : ((s[i]).toNat : Int) < 97
    · have hbad := nameOk_bad (all_bad (p := lowB) hlt (lowB_lo ha))
      simp [hlt, ha, hbad, ]
    · by_cases hz : (122 : Int) < ((s[i]).toNat : Int)
      · have hbad := nameOk_bad (all_bad (p := lowB) hlt (lowB_hi hz))
        simp [hlt, ha, hz, hbad, ]
      · simp [hlt, ha, hz, hwi, ]
        exact back (i + 1) ⟨by omega, allTo_step hi.2 hlt (lowB_ok ha hz)⟩ (by omega) rfl (by simp <;> omega) (by simp) (by simp)
  · have hd := allTo_done hi.2 (by omega)
    simp [hlt, ]
    refine call_f (w_spec_l1In s.length 1 4) (by simp) rfl fun hs1 hh1 => ?_
    have e : inR (s.length : Int) 1 4 = decide (1 ≤ s.length ∧ s.length ≤ 4) := by
      simp only [inR, ← Bool.decide_and]; congr 1; apply propext; omega
    rw [e, nameOk_ok hd]
    simp
theorem w_impl_isSetOf (l : List Int) (n : Int) : VC Tryz.prog 66 [.d (pS cI l), .d (.int .i64 n)] (fun _ r => r = .d (.bool (setOf l n))) := by
  refine VC.ofL EP s66 (by kernel_rfl) Tryz.func66 (by rfl) (by kernel_rfl) (by simp [Tryz.f66]) (by simp [Tryz.f66]) s66_ok fun B hl => ?_
  simp [pS, maxLen] at hl
  simp [Tryz.f66, ]
  refine loop_rule (X := Nat) (SetTo l n) (fun i => [(0, .d (.pl (l.map cI))), (1, .d (.int .i64 n)), (7, .d (.pl (l.map cI))), (8, .d (.int .i64 l.length)), (9, .d (.int .i64 i))]) (fun _ => []) (fun i => l.length - i) 0 .zero (by simp) (by simp) ?_
  intro i hs t m hi hh
  have hil := hi.le
  by_cases hlt : i < l.length
  · have hwi := wr1 (i := i) (by omega)
    simp [hlt, ]
    refine call_f (w_impl_within l[i] 0 (IntKind.i64.wrap (n - 1))) (by simp) rfl fun hs1 hh1 => ?_
    simp at hh1
    cases h1 : inR l[i] 0 (IntKind.i64.wrap (n - 1))
    · simp [setOf_bad1 hlt h1]
    simp [hil, ← List.map_take, ]
    refine call_f (w_impl_hasInt (l.take i) l[i]) (by simp) rfl fun hs2 hh2 => ?_
    simp at hh2
    by_cases h2 : l[i] ∈ l.take i
    · simp [h2, setOf_bad2 hlt h2]
    simp [h2, hwi, ]
    exact back (i + 1) (hi.step hlt h1 h2) (by omega) rfl (by simp <;> omega) (by simp) (by simp)
  · have hd := hi.done (by omega)
    simp [hlt, hd]
end

end Go.Proofs.YtpbcmlolapdfjaaGreatDoor


namespace Go.Proofs.YtpbcmlolapdfjaaGreatDoor
open Go.Vs Go.Proofs Go
set_option maxRecDepth 100000
set_option maxHeartbeats 1000000

section
attribute [local simp] plI_id plStr_id map_plI map_plStr pS cP cI cStr cU8 cB eAtom
theorem w_spec_IsValidQuery (q : PQuery) (hst : ∀ a ∈ q.atoms, a.rel.length ≤ maxLen) : VC Tryz.prog 35 [.agg ((eQuery q).map V.d)] (fun _ r => r = .d (.bool (queryOk q))) := by
  refine VC.ofL EP s35 (by kernel_rfl) Tryz.func35 (by rfl) (by kernel_rfl) (by simp [Tryz.f35]) (by simp [Tryz.f35]) s35_ok fun B hl => ?_
  obtain ⟨n, ats, out⟩ := q
  simp only at hst
  simp [pS, maxLen, eQuery] at hl
  simp [Tryz.f35, s35_11, s35_26, s35_11, s35_26, eQuery]
  refine call_f (w_spec_l1In n 1 5) (by simp) rfl fun hs1 hh1 => ?_
  simp at hh1
  cases h1 : inR n 1 5
  · simp [queryOk_n (q := ⟨n, ats, out⟩) h1]
  have hn : 1 ≤ n ∧ n ≤ 5 := by simpa [inR] using h1
  simp [s35_11, s35_26, eQuery]
  refine call_f (w_spec_l1In ats.length 1 4) (by simp) rfl fun hs2 hh2 => ?_
  simp at hh2
  cases h2 : inR (ats.length : Int) 1 4
  · simp [queryOk_a (q := ⟨n, ats, out⟩) h2]
  have ha4 : ats.length ≤ 4 := by simp [inR] at h2; omega
  by_cases h3 : n < out.length
  · have hso : setOf out n = false := by
      cases hs : setOf out n
      · rfl
      · have := setOf_len hn hs; omega
    simp [h3, queryOk_o (q := ⟨n, ats, out⟩) hso]
  have hrw : ∀ i (h : i < ats.length), ats[i].rel.length ≤ maxLen := fun i h => hst _ (List.getElem_mem h)
  have hvl : ∀ i (h : i < ats.length), ats[i].vars.length ≤ 9223372036854775807 := fun i h => (hl.1.2 _ (List.getElem_mem h))
  simp [h3]
  refine loop_rule (X := Nat) (AtI n ats) (fun i => [(1, .ptr 1 0 0), (3, .d (.int .i64 i))]) (fun _ => [(1, some (.box [.d (.int .i64 n), .d (.pl (ats.map eAtom)), .d (.pl (out.map cI))]))]) (fun i => ats.length - i) 0 .zero (by simp) (by simp) ?_
  intro i hs t m hi hh
  have hil := hi.le
  by_cases hlt : i < ats.length
  · have hwi := wr1 (i := i) (by omega)
    have hbad : atomOk n ats[i] = false → queryOk ⟨n, ats, out⟩ = false := fun h => queryOk_at (q := ⟨n, ats, out⟩) hlt h
    simp [hlt, s35_11, s35_26, ]
    refine call_f (w_spec_IsValidName ats[i].rel (hrw i hlt)) (by simp) rfl fun hs3 hh3 => ?_
    simp at hh3
    cases h4 : nameOk ats[i].rel
    · simp [hbad (by simp only [atomOk, h4, Bool.false_and])]
    simp [hlt, s35_11, s35_26, ]
    refine call_f (w_spec_l1In ats[i].vars.length 1 5) (by simp) rfl fun hs4 hh4 => ?_
    simp at hh4
    cases h5 : inR (ats[i].vars.length : Int) 1 5
    · simp [hbad (by simp only [atomOk, h5, Bool.false_and, Bool.and_false])]
    simp [s35_11, s35_26, ]
    refine loop_rule (X := Nat) (AtK n ats[i].vars) (fun k => [(1, .ptr 1 0 0), (3, .d (.int .i64 i)), (4, .d (.int .i64 k))]) (fun _ => [(1, some (.box [.d (.int .i64 n), .d (.pl (ats.map eAtom)), .d (.pl (out.map cI))]))]) (fun k => ats[i].vars.length - k) 0 .zero (by simp) (by simp) ?_
    intro k hs t m hk hh
    have hkl := hk.le
    have hvi := hvl i hlt
    by_cases hkt : k < ats[i].vars.length
    · have hwk := wr1 (i := k) (by omega)
      cases h6 : inR ats[i].vars[k] 0 (IntKind.i64.wrap (n - 1))
      · have hq := hbad (atomOk_bad hkt h6)
        simp [hlt, hkt, s35_11, s35_26, ]
        refine call_f (VC.to (w_spec_l1In ats[i].vars[k] 0 (IntKind.i64.wrap (n - 1))) (show _ = V.d (.bool false) by rw [h6])) (by simp) rfl fun hs5 hh5 => ?_
        simp [hq]
      · refine anyQ fun Q => ?_
        simp [hlt, hkt, s35_11, s35_26, ]
        refine call_f (VC.to (w_spec_l1In ats[i].vars[k] 0 (IntKind.i64.wrap (n - 1))) (show _ = V.d (.bool true) by rw [h6])) (by simp) rfl fun hs5 hh5 => ?_
        simp at hh5
        simp [hwk, s35_11, s35_26, ]
        exact back (k + 1) (hk.step hkt h6) (by omega) rfl (by simp <;> omega) (by simp) (by simp)
    · have hao := atomOk_done hk (by omega) h4 h5
      simp [hlt, hkt, hwi, s35_11, s35_26, ]
      exact back (i + 1) (hi.step hlt hao) (by omega) rfl (by simp <;> omega) (by simp) (by simp)
  have hall := allTo_done hi.ok (by omega)
  simp [hlt, s35_11, s35_26, ]
  refine loop_rule (X := Nat) (UsTo n ats) (fun v => [(1, .ptr 1 0 0), (5, .d (.int .i64 v))]) (fun _ => [(1, some (.box [.d (.int .i64 n), .d (.pl (ats.map eAtom)), .d (.pl (out.map cI))]))]) (fun v => n.toNat - v) 0 .zero (by simp) (by simp) ?_
  intro v hs t m hv hh
  have hvn := hv.le
  by_cases hvt : v < n.toNat
  · have hwv := wr1 (i := v) (by omega)
    have hvt' : (v : Int) < n := by omega
    simp [hvt', s35_11, s35_26, ]
    refine loop_rule (X := Nat) (fun i => i ≤ ats.length) (fun i => [(1, .ptr 1 0 0), (5, .d (.int .i64 v)), (6, .d (.bool (hasTo ats v i))), (7, .d (.int .i64 i))]) (fun _ => [(1, some (.box [.d (.int .i64 n), .d (.pl (ats.map eAtom)), .d (.pl (out.map cI))]))]) (fun i => ats.length - i) 0 (by simp) (by simp [hasTo_zero]) (by simp) ?_
    intro i hs t m hi hh
    by_cases hlt : i < ats.length
    · have hwi := wr1 (i := i) (by omega)
      have hst := hasTo_step (v := (v : Int)) hlt
      refine anyQ fun Q => ?_
      cases h6 : hasTo ats v i
      · rw [h6, Bool.false_or] at hst
        simp [hlt, s35_11, s35_26, ]
        refine call_f (w_spec_ContainsVariable ats[i] v) (by simp) rfl fun hs5 hh5 => ?_
        simp at hh5
        simp only [List.contains_eq_mem] at hst
        simp [hwi, s35_11, s35_26, ]
        exact back (i + 1) (by omega) (by omega) rfl (by simp <;> omega) (by simp [hst]) (by simp)
      · rw [h6, Bool.true_or] at hst
        simp [hlt, hwi, s35_11, s35_26, ]
        exact back (i + 1) (by omega) (by omega) rfl (by simp <;> omega) (by simp [hst]) (by simp)
    · have hha := hasTo_all (l := ats) (v := (v : Int)) (i := i) (by omega)
      cases h7 : (varsIn ats).contains (v : Int)
      · rw [h7] at hha
        simp [hlt, hha, queryOk_u (q := ⟨n, ats, out⟩) (usesAll_bad hvt h7), s35_11, s35_26, ]
      · rw [h7] at hha
        simp [hlt, hha, hwv, s35_11, s35_26, ]
        exact back (v + 1) (hv.step hvt h7) (by omega) rfl (by simp <;> omega) (by simp) (by simp)
  have hus := hv.done (by omega)
  have hvt' : ¬ (v : Int) < n := by omega
  simp [hvt', s35_11, s35_26, ]
  refine loop_rule (X := Nat) (SetTo out n) (fun i => [(1, .ptr 1 0 0), (8, .d (.int .i64 i))]) (fun _ => [(1, some (.box [.d (.int .i64 n), .d (.pl (ats.map eAtom)), .d (.pl (out.map cI))]))]) (fun i => out.length - i) 0 .zero (by simp) (by simp) ?_
  intro i hs t m hi hh
  have hil := hi.le
  by_cases hlt : i < out.length
  · have hwi := wr1 (i := i) (by omega)
    simp [hlt, s35_11, s35_26, ]
    refine call_f (w_spec_l1In out[i] 0 (IntKind.i64.wrap (n - 1))) (by simp) rfl fun hs5 hh5 => ?_
    simp at hh5
    cases h6 : inR out[i] 0 (IntKind.i64.wrap (n - 1))
    · simp [queryOk_o (q := ⟨n, ats, out⟩) (setOf_bad1 hlt h6)]
    simp [hil, hlt, ← List.map_take, s35_11, s35_26, ]
    refine call_f (w_spec_l7Find (out.take i) out[i]) (by simp) rfl fun hs6 hh6 => ?_
    simp at hh6
    have hge := idxL_ge (out.take i) out[i]
    by_cases h7 : out[i] ∈ out.take i
    · have h8 : 0 ≤ idxL (out.take i) out[i] := by simpa [h7] using hge
      simp [h8, queryOk_o (q := ⟨n, ats, out⟩) (setOf_bad2 hlt h7)]
    · have h8 : ¬ 0 ≤ idxL (out.take i) out[i] := by simpa [h7] using hge
      simp [h8, hwi, s35_11, s35_26, ]
      exact back (i + 1) (hi.step hlt h6 h7) (by omega) rfl (by simp <;> omega) (by simp) (by simp)
  · have hd := hi.done (by omega)
    simp [hlt, queryOk_all (q := ⟨n, ats, out⟩) h1 h2 hd hall hus]
end

end Go.Proofs.YtpbcmlolapdfjaaGreatDoor


namespace Go.Proofs.YtpbcmlolapdfjaaGreatDoor
open Go.Vs Go.Proofs Go
set_option maxRecDepth 100000
set_option maxHeartbeats 1000000

section
attribute [local simp] plI_id plStr_id map_plI map_plStr pS cP cI cStr cU8 cB eAtom
theorem w_impl_IsValidQuery (q : PQuery) : VC Tryz.prog 43 [.agg ((eQuery q).map V.d)] (fun _ r => r = .d (.bool (queryOk q))) := by
  refine VC.ofL EP s43 (by kernel_rfl) Tryz.func43 (by rfl) (by kernel_rfl) (by simp [Tryz.f43]) (by simp [Tryz.f43]) s43_ok fun B hl => ?_
  obtain ⟨n, ats, out⟩ := q
  simp [pS, maxLen, eQuery] at hl
  simp [Tryz.f43, eQuery]
  refine call_f (w_impl_within n 1 5) (by simp) rfl fun hs1 hh1 => ?_
  simp at hh1
  cases h1 : inR n 1 5
  · simp [queryOk_n (q := ⟨n, ats, out⟩) h1]
  have hn : 1 ≤ n ∧ n ≤ 5 := by simpa [inR] using h1
  obtain ⟨N, rfl⟩ : ∃ N : Nat, n = (N : Int) := ⟨n.toNat, by omega⟩
  simp [eQuery]
  refine call_f (w_impl_within ats.length 1 4) (by simp) rfl fun hs2 hh2 => ?_
  simp at hh2
  cases h2 : inR (ats.length : Int) 1 4
  · simp [queryOk_a (q := ⟨N, ats, out⟩) h2]
  have ha4 : ats.length ≤ 4 := by simp [inR] at h2; omega
  simp [eQuery]
  refine call_f (w_impl_isSetOf out N) (by simp) rfl fun hs3 hh3 => ?_
  simp at hh3
  cases h3 : setOf out N
  · simp [queryOk_o (q := ⟨N, ats, out⟩) h3]
  have hvl : ∀ i (h : i < ats.length), ats[i].vars.length ≤ 9223372036854775807 := fun i h => (hl.1.2 _ (List.getElem_mem h))
  have hL : LenOk 1 N := ⟨by omega, by simp only [maxLen]; omega⟩
  have hwN : IntKind.i64.wrap ((N : Int) - 1) = N - 1 := wrap64_of (by omega) (by omega)
  simp [hL, ]
  refine loop_rule (X := Nat) (AtI N ats) (fun i => [(3, .d (.int .i64 N)), (4, .own 31 0 N), (33, .d (.pl (ats.map eAtom))), (34, .d (.int .i64 ats.length)), (35, .d (.int .i64 i))])
    (fun i => [(31, some (.row 4 1 ((usedL N (varsIn (ats.take i))).map cB)))]) (fun i => ats.length - i) 0 .zero (by simp) (by simp [usedL_nil, varsIn]) ?_
  intro i hs t m hi hh
  have hil := hi.le
  by_cases hlt : i < ats.length
  · have hwi := wr1 (i := i) (by omega)
    have hbad : atomOk N ats[i] = false → queryOk ⟨N, ats, out⟩ = false := fun h => queryOk_at (q := ⟨N, ats, out⟩) hlt h
    have hvs : varsIn (ats.take (i + 1)) = varsIn (ats.take i) ++ ats[i].vars := by
      rw [varsIn, List.take_succ_eq_append_getElem hlt, List.flatMap_append]; simp only [varsIn, List.flatMap_cons, List.flatMap_nil, List.append_nil]
    simp [hlt, ]
    refine call_f (w_impl_IsValidName ats[i].rel) (by simp) rfl fun hs3 hh3 => ?_
    simp at hh3
    cases h4 : nameOk ats[i].rel
    · simp [hbad (by simp only [atomOk, h4, Bool.false_and])]
    simp []
    refine call_f (w_impl_within ats[i].vars.length 1 5) (by simp) rfl fun hs4 hh4 => ?_
    simp at hh4
    cases h5 : inR (ats[i].vars.length : Int) 1 5
    · simp [hbad (by simp only [atomOk, h5, Bool.false_and, Bool.and_false])]
    simp []
    obtain ⟨us, hus⟩ : ∃ us, us = varsIn (ats.take i) := ⟨_, rfl⟩
    rw [← hus] at hvs ⊢
    obtain ⟨vs, hvse⟩ : ∃ vs, vs = ats[i].vars := ⟨_, rfl⟩
    have hvi := hvl i hlt
    rw [← hvse] at hvs hvi h5
    refine loop_rule (X := Nat) (AtK N vs) (fun k => [(3, .d (.int .i64 N)), (4, .own 31 0 N), (33, .d (.pl (ats.map eAtom))), (34, .d (.int .i64 ats.length)), (35, .d (.int .i64 i)), (51, .d (.pl (vs.map cI))), (52, .d (.int .i64 vs.length)), (53, .d (.int .i64 k))])
      (fun k => [(31, some (.row 4 1 ((usedL N (us ++ vs.take k)).map cB)))]) (fun k => vs.length - k) 0 .zero (by simp [hvse]) (by simp [hus]) ?_
    intro k hs t m hk hh
    have hkl := hk.le
    by_cases hkt : k < vs.length
    · have hwk := wr1 (i := k) (by omega)
      simp [hkt, ]
      refine call_f (w_impl_within vs[k] 0 (IntKind.i64.wrap ((N : Int) - 1))) (by simp) rfl fun hs5 hh5 => ?_
      simp at hh5
      cases h6 : inR vs[k] 0 (IntKind.i64.wrap ((N : Int) - 1))
      · have hq := hbad (atomOk_bad (k := k) (by rw [← hvse]; exact hkt) (by simpa only [← hvse] using h6))
        simp [hq]
      · have hst := hk.step hkt h6
        rw [hwN] at h6
        simp only [inR, Bool.and_eq_true, decide_eq_true_eq] at h6
        obtain ⟨p, hp⟩ : ∃ p : Nat, vs[k] = (p : Int) := ⟨vs[k].toNat, by omega⟩
        have hpN : p < N := by omega
        have hset : usedL N (us ++ vs.take (k + 1)) = (usedL N (us ++ vs.take k)).set p true := by
          rw [usedL_snoc hpN, List.append_assoc, List.take_succ_eq_append_getElem hkt, hp]
        simp [hp, hpN, hwk, ]
        exact back (k + 1) hst (by omega) rfl (by simp <;> omega) (by simp) (by simp [hset])
    · have hao := atomOk_done (n := N) (a := ats[i]) (k := k) (by rw [← hvse]; exact hk) (by rw [← hvse]; omega) h4 (by rw [← hvse]; exact h5)
      have hd : vs.take k = vs := List.take_of_length_le (by omega)
      simp [hkt, hwi, hd, ]
      exact back (i + 1) (hi.step hlt hao) (by omega) rfl (by simp <;> omega) (by simp) (by simp [hvs])
  have hall := allTo_done hi.ok (by omega)
  have hd : ats.take i = ats := List.take_of_length_le (by omega)
  rw [hd]
  simp [hlt, ]
  have hu := usesAll_iff (n := (N : Int)) (l := ats)
  rw [Int.toNat_natCast] at hu
  refine loop_rule (X := Nat) (fun j => j ≤ N ∧ AllTo id (usedL N (varsIn ats)) j) (fun j => [(67, .own 31 0 N), (68, .d (.int .i64 N)), (69, .d (.int .i64 j))]) (fun _ => [(31, some (.row 4 1 ((usedL N (varsIn ats)).map cB)))]) (fun j => N - j) 0 ⟨by simp, allTo_zero⟩ (by simp) (by simp) ?_
  intro j hs t m hj hh
  by_cases hjt : j < N
  · have hwj := wr1 (i := j) (by omega)
    have hjl : j < (usedL N (varsIn ats)).length := by simpa using hjt
    cases h6 : (usedL N (varsIn ats))[j]
    · have hq : queryOk ⟨N, ats, out⟩ = false := queryOk_u (q := ⟨N, ats, out⟩) (by rw [hu]; exact all_bad (p := id) hjl h6)
      simp [hjt, h6, hq, ]
    · simp [hjt, h6, hwj, ]
      exact back (j + 1) ⟨by omega, allTo_step hj.2 hjl h6⟩ (by omega) rfl (by simp <;> omega) (by simp) (by simp)
  · have hus : usesAll N ats = true := by rw [hu]; exact allTo_done hj.2 (by simp; omega)
    simp [hjt, queryOk_all (q := ⟨N, ats, out⟩) h1 h2 h3 hall hus]
end

end Go.Proofs.YtpbcmlolapdfjaaGreatDoor


namespace Go.Proofs.YtpbcmlolapdfjaaGreatDoor
open Go.Vs Go.Proofs Go
set_option maxRecDepth 100000
set_option maxHeartbeats 1000000

section
attribute [local simp] plI_id plStr_id map_plI map_plStr pS cP cI cStr cU8 cB
theorem w_impl_IsStrictlyAscending (b : List Int) : VC Tryz.prog 81 [.d (pS cI b)] (fun _ r => r = .d (.bool (ascB b))) := by
  refine VC.ofL EP s81 (by kernel_rfl) Tryz.func81 (by rfl) (by kernel_rfl) (by simp [Tryz.f81]) (by simp [Tryz.f81]) s81_ok fun B hl => ?_
  simp [pS, maxLen] at hl
  simp [Tryz.f81, s81_4, s81_4, ]
  refine loop_rule (X := Nat) (AscI b) (fun i => [(0, .d (.pl (b.map cI))), (3, .d (.int .i64 i))]) (fun _ => []) (fun i => b.length + 1 - i) 1 .one (by simp) (by simp) ?_
  intro i hs t m hi hh
  have hle := hi.le
  by_cases hlt : i < b.length
  · have hwi := wr1 (i := i) (by omega)
    have hw : IntKind.i64.wrap ((i : Int) - 1) = ((i - 1 : Nat) : Int) := by rw [wrap64_of (by omega) (by omega)]; omega
    have hl1 : i - 1 < b.length := by omega
    by_cases he : b[i - 1] < b[i]
    · simp [hlt, hw, hl1, he, show ¬ b[i] ≤ b[i - 1] by omega, hwi, s81_4, ]
      exact back (i + 1) (hi.step hlt he) (by omega) rfl (by simp <;> omega) (by simp) (by simp)
    · simp [hlt, hw, hl1, show b[i] ≤ b[i - 1] by omega, asc_bad hle.1 hlt he, s81_4, ]
  · simp [hlt, hi.done (by omega)]
theorem w_impl_isBag (q : PQuery) (b : List Int) : VC Tryz.prog 72 [.agg ((eQuery q).map V.d), .d (pS cI b)] (fun _ r => r = .d (.bool (bagI q.n b))) := by
  refine VC.ofL EP s72 (by kernel_rfl) Tryz.func72 (by rfl) (by kernel_rfl) (by simp [Tryz.f72]) (by simp [Tryz.f72]) s72_ok fun B hl => ?_
  by_cases h0 : b.length = 0
  · have : b = [] := List.length_eq_zero_iff.1 h0
    subst this
    simp [Tryz.f72, eQuery, bagI]
  have h1 : 0 < b.length := by omega
  simp [Tryz.f72, eQuery, h1]
  refine call_f (w_impl_IsStrictlyAscending b) (by simp) rfl fun hs1 hh1 => ?_
  simp at hh1
  cases h2 : ascB b
  · simp [bagI, h2]
  simp []
  refine call_f (w_impl_isSetOf b q.n) (by simp) rfl fun hs2 hh2 => ?_
  simp [bagI, h1, h2]
theorem w_impl_common (l b : List Int) (hb : l.length ≤ 4294967296) : VC Tryz.prog 48 [.d (pS cI l), .d (pS cI b)] (fun _ r => r = .d (pS cI (commL l b))) := by
  refine VC.ofL EP s48 (by kernel_rfl) Tryz.func48 (by rfl) (by kernel_rfl) (by simp [Tryz.f48]) (by simp [Tryz.f48]) s48_ok fun B hl => ?_
  simp [Tryz.f48, ]
  refine loop_ruleL (X := Nat) (fun i _ => i ≤ l.length) (fun i => [(1, .d (.pl (b.map cI))), (5, .own 20 0 (commL (l.take i) b).length), (8, .d (.pl (l.map cI))), (9, .d (.int .i64 l.length)), (10, .d (.int .i64 i))]) (fun i => [(20, some (.row 3 1 ((commL (l.take i) b).map cI)))]) (fun i => l.length - i) ?_ ?_
  · refine (lead_slot 5 20 3 1 (by omega) (by omega) (by simp)).bind ?_
    rintro _ rfl
    exact Lead.of ⟨0, by omega, rfl, rfl, Nat.le_refl _, by simp [commL], by simp [commL]⟩
  intro i hs t m hi hh
  by_cases hlt : i < l.length
  · have hwi := wr1 (i := i) (by omega)
    have hst := comm_step (b := b) hlt
    have hcl := List.length_filter_le (fun v => b.contains v) (l.take i)
    rw [List.length_take] at hcl
    have hL : LenOk 8 ((commL (l.take i) b).length + 1) := ⟨by simp only [commL]; omega, by simp only [maxLen, commL]; omega⟩
    simp [hlt, ]
    refine call_f (w_impl_hasInt b l[i]) (by simp) rfl fun hs1 hh1 => ?_
    simp at hh1
    by_cases h1 : l[i] ∈ b
    · have e : b.contains l[i] = true := by simpa using h1
      rw [e] at hst
      simp only [if_true] at hst
      simp [h1, hwi, hL, ]
      exact back2 (i + 1) (by omega) (by omega) rfl (by simp <;> omega) (by simp [hst]) (by simp [hst])
    · have e : b.contains l[i] = false := by simpa using h1
      rw [e] at hst
      simp only [Bool.false_eq_true, if_false, List.append_nil] at hst
      simp [h1, hwi, ]
      exact back2 (i + 1) (by omega) (by omega) rfl (by simp <;> omega) (by simp [hst]) (by simp [hst])
  · have hn : i = l.length := by omega
    subst hn
    simp [List.take_of_length_le]
theorem w_impl_AtomVariables (a : PAtom) : VC Tryz.prog 70 [.agg ((eAtom a).map V.d)] (fun _ r => r = .d (pS cI (avars a))) := by
  refine VC.ofL EP s70 (by kernel_rfl) Tryz.func70 (by rfl) (by kernel_rfl) (by simp [Tryz.f70]) (by simp [Tryz.f70]) s70_ok fun B hl => ?_
  simp [Tryz.f70, eAtom]
  refine loop_ruleL (X := Nat) (fun i _ => i ≤ 5) (fun i => [(1, .ptr 1 0 0), (3, .own 15 0 (avTo a i).length), (4, .d (.int .i64 i))]) (fun i => [(1, some (.box [.d (.str a.rel), .d (.pl (a.vars.map cI))])), (15, some (.row 3 1 ((avTo a i).map cI)))]) (fun i => 5 - i) ?_ ?_
  · refine (lead_slot 3 15 3 1 (by omega) (by omega) (by simp)).bind ?_
    rintro _ rfl
    exact Lead.of ⟨0, by omega, rfl, rfl, Nat.le_refl _, by simp [avTo, rangeI_zero], by simp [avTo, rangeI_zero]⟩
  intro i hs t m hi hh
  by_cases hlt : i < 5
  · have hwi := wr1 (i := i) (by omega)
    have hst := avTo_step a i
    have hal := avTo_len a i
    have hL : LenOk 8 ((avTo a i).length + 1) := ⟨by omega, by simp only [maxLen]; omega⟩
    have hlt' : (i : Int) < 5 := by omega
    simp [hlt', ]
    refine call_f (w_impl_ContainsVariable a i) (by simp [eAtom]) rfl fun hs1 hh1 => ?_
    simp at hh1
    by_cases h1 : (i : Int) ∈ a.vars
    · have e : a.vars.contains (i : Int) = true := by simpa using h1
      rw [e] at hst
      simp only [if_true] at hst
      simp [h1, hwi, hL, ]
      exact back2 (i + 1) (by omega) (by omega) rfl (by simp <;> omega) (by simp [hst]) (by simp [hst])
    · have e : a.vars.contains (i : Int) = false := by simpa using h1
      rw [e] at hst
      simp only [Bool.false_eq_true, if_false, List.append_nil] at hst
      simp [h1, hwi, ]
      exact back2 (i + 1) (by omega) (by omega) rfl (by simp <;> omega) (by simp [hst]) (by simp [hst])
  · have hn : i = 5 := by omega
    subst hn
    have : avTo a 5 = avars a := rfl
    simp [this, List.take_of_length_le, ]
theorem w_spec_l30Bag (q : PQuery) (b : List Int) : VC Tryz.prog 62 [.agg ((eQuery q).map V.d), .d (pS cI b)] (fun _ r => r = .d (.bool (bagS q.n b))) := by
  refine VC.ofL EP s62 (by kernel_rfl) Tryz.func62 (by rfl) (by kernel_rfl) (by simp [Tryz.f62]) (by simp [Tryz.f62]) s62_ok fun B hl => ?_
  simp [pS, maxLen] at hl
  simp [Tryz.f62, s62_4, eQuery]
  refine loop_rule (X := Nat) (BagI q.n b) (fun i => [(1, .d (.pl (b.map cI))), (2, .ptr 2 0 0), (5, .d (.int .i64 i))]) (fun _ => [(2, some (.box [.d (.int .i64 q.n), .d (.pl (q.atoms.map eAtom)), .d (.pl (q.out.map cI))]))]) (fun i => b.length - i) 0 .zero (by simp) (by simp) ?_
  intro i hs t m hi hh
  have hle := hi.le
  by_cases hlt : i < b.length
  · have hwi := wr1 (i := i) (by omega)
    simp [hlt, s62_4, ]
    refine call_f (w_spec_l1In b[i] 0 (IntKind.i64.wrap (q.n - 1))) (by simp) rfl fun hs1 hh1 => ?_
    simp at hh1
    cases h1 : inR b[i] 0 (IntKind.i64.wrap (q.n - 1))
    · have hb : bagS q.n b = false := bagS_bad hlt (by rw [bagAt, getD_el _ hlt, h1, Bool.false_and])
      simp [hb, s62_4, ]
    by_cases h0 : i = 0
    · subst h0
      have hwi0 : IntKind.i64.wrap 1 = 1 := by simpa using hwi
      have hok : bagAt q.n b 0 = true := by rw [bagAt, getD_el _ hlt, h1, Bool.true_and]; simp [ascAt]
      simp [hwi0, s62_4, ]
      exact back 1 (hi.step hlt hok) (by omega) rfl (by simp <;> omega) (by simp) (by simp)
    · have h0' : 0 < i := by omega
      have hw : IntKind.i64.wrap ((i : Int) - 1) = ((i - 1 : Nat) : Int) := by rw [wrap64_of (by omega) (by omega)]; omega
      have hl1 : i - 1 < b.length := by omega
      have hat := ascAt_eq (b := b) (by omega) hlt
      by_cases he : b[i - 1] < b[i]
      · have hok : bagAt q.n b i = true := by rw [bagAt, getD_el _ hlt, h1, Bool.true_and, hat]; simpa using he
        simp [h0', hlt, hw, hl1, show ¬ b[i] ≤ b[i - 1] by omega, hwi, s62_4, ]
        exact back (i + 1) (hi.step hlt hok) (by omega) rfl (by simp <;> omega) (by simp) (by simp)
      · have hb : bagS q.n b = false := bagS_bad hlt (by rw [bagAt, getD_el _ hlt, h1, Bool.true_and, hat]; simpa using he)
        simp [h0', hlt, hw, hl1, show b[i] ≤ b[i - 1] by omega, hb, s62_4, ]
  · have hd := hi.done (by omega)
    simp [hlt, hd]
end

end Go.Proofs.YtpbcmlolapdfjaaGreatDoor


namespace Go.Proofs.YtpbcmlolapdfjaaGreatDoor
open Go.Vs Go.Proofs Go
set_option maxRecDepth 100000
set_option maxHeartbeats 1000000

section
attribute [local simp] plI_id plStr_id map_plI map_plStr pS cP cI cStr cU8 cB
theorem w_impl_isTree (ps : List Int) (hb : ps.length ≤ 4294967296) : VC Tryz.prog 71 [.d (pS cI ps)] (fun _ r => r = .d (.bool (treeB ps))) := by
  refine VC.ofL EP s71 (by kernel_rfl) Tryz.func71 (by rfl) (by kernel_rfl) (by simp [Tryz.f71]) (by simp [Tryz.f71]) s71_ok fun B hl => ?_
  simp [pS, maxLen] at hl
  simp [Tryz.f71, ]
  refine loop_rule (X := Nat) (TreI ps) (fun i => [(0, .d (.pl (ps.map cI))), (3, .d (.int .i64 (rootsTo ps i))), (8, .d (.pl (ps.map cI))), (9, .d (.int .i64 ps.length)), (10, .d (.int .i64 i))]) (fun _ => []) (fun i => ps.length - i) 0 .zero (by simp [rootsTo]) (by simp) ?_
  intro i hs t m hi hh
  have hle := hi.le
  by_cases hlt : i < ps.length
  case neg =>
    have hd := hi.done (by omega)
    simp [hlt, hd]
    omega
  have hwi := wr1 (i := i) (by omega)
  have hw1 : IntKind.i64.wrap ((ps.length : Int) - 1) = ps.length - 1 := wrap64_of (by omega) (by omega)
  have hbad : treeAt ps i = false → treeB ps = false := treeB_bad hlt
  have hri := rootsTo_le ps i
  have hst := rootsTo_step hlt
  have hwr : IntKind.i64.wrap ((rootsTo ps i : Int) + 1) = rootsTo ps i + 1 := wrap64_of (by omega) (by omega)
  simp [hlt, hw1, ]
  refine call_f (w_impl_within ps[i] (-1) (ps.length - 1)) (by simp) rfl fun hs1 hh1 => ?_
  simp at hh1
  cases h1 : inR ps[i] (-1) (ps.length - 1)
  · have hb := hbad (by rw [treeAt, nxP_at hlt, h1, Bool.false_and])
    simp [hb]
  have hend : treeAt ps i = endNeg (upI ps (ps.length + 1) i) := by rw [treeAt, nxP_at hlt, h1, Bool.true_and]
  obtain ⟨R, hR⟩ : ∃ R : Nat, R = rootsTo ps (i + 1) := ⟨_, rfl⟩
  by_cases h2 : ps[i] < 0
  · rw [if_pos h2] at hst
    simp [h2, hwr, ]
    refine loop_rule (X := Nat × Int) (UpT ps i) (fun p => [(0, .d (.pl (ps.map cI))), (3, .d (.int .i64 R)), (6, .d (.int .i64 p.2)), (7, .d (.int .i64 p.1)), (8, .d (.pl (ps.map cI))), (9, .d (.int .i64 ps.length)), (10, .d (.int .i64 i))]) (fun _ => []) (fun p => ps.length + 1 - p.1) (0, (i : Int)) ⟨by simp, by simp only; omega, rfl⟩ (by simp [hR, hst]) (by simp) ?_
    rintro ⟨k, a⟩ hs t m hk hh
    have hkl := hk.le
    have hka := hk.at_
    simp only at hkl hka
    by_cases hc : k ≤ ps.length ∧ 0 ≤ a
    · obtain ⟨hc1, hc2⟩ := hc
      obtain ⟨A, rfl⟩ : ∃ A : Nat, a = (A : Int) := ⟨a.toNat, by omega⟩
      have hA : A < ps.length := by omega
      have hwk := wr1 (i := k) (by omega)
      cases h3 : inR ps[A] (-1) (ps.length - 1)
      · have hb := hbad (hk.bad hc1 hc2 (nxP_at hA) h3)
        simp [hc1, hA, hw1, ]
        refine call_f (VC.to (w_impl_within ps[A] (-1) (ps.length - 1)) (show _ = V.d (.bool false) by rw [h3])) (by simp) rfl fun hs3 hh3 => ?_
        simp [hb]
      · refine anyQ fun Q => ?_
        simp [hc1, hA, hw1, ]
        refine call_f (VC.to (w_impl_within ps[A] (-1) (ps.length - 1)) (show _ = V.d (.bool true) by rw [h3])) (by simp) rfl fun hs3 hh3 => ?_
        simp at hh3
        simp [hwk, ]
        exact back (k + 1, ps[A]) (hk.step hc1 hc2 (nxP_at hA) h3) (by simp only; omega) rfl (by simp <;> omega) (by simp) (by simp)
    have hfin := hk.fin hc
    by_cases ha : a < 0
    · have hok : treeAt ps i = true := by rw [hend, hfin]; simpa using ha
      have ha' : ¬ 0 ≤ a := by omega
      by_cases hk2 : k ≤ ps.length
      · simp [hk2, ha, ha', hwi, ]
        exact back (i + 1) (hi.step hlt hok) (by omega) rfl (by simp <;> omega) (by simp [hR]) (by simp)
      · simp [hk2, ha, ha', hwi, ]
        exact back (i + 1) (hi.step hlt hok) (by omega) rfl (by simp <;> omega) (by simp [hR]) (by simp)
    · have hb := hbad (by rw [hend, hfin]; simpa using ha)
      have hk2 : ¬ k ≤ ps.length := fun h => hc ⟨h, by omega⟩
      simp [hk2, show 0 ≤ a by omega, hb, ]
  · rw [if_neg h2] at hst
    simp [h2, ]
    refine loop_rule (X := Nat × Int) (UpT ps i) (fun p => [(0, .d (.pl (ps.map cI))), (3, .d (.int .i64 R)), (6, .d (.int .i64 p.2)), (7, .d (.int .i64 p.1)), (8, .d (.pl (ps.map cI))), (9, .d (.int .i64 ps.length)), (10, .d (.int .i64 i))]) (fun _ => []) (fun p => ps.length + 1 - p.1) (0, (i : Int)) ⟨by simp, by simp only; omega, rfl⟩ (by simp [hR, hst]) (by simp) ?_
    rintro ⟨k, a⟩ hs t m hk hh
    have hkl := hk.le
    have hka := hk.at_
    simp only at hkl hka
    by_cases hc : k ≤ ps.length ∧ 0 ≤ a
    · obtain ⟨hc1, hc2⟩ := hc
      obtain ⟨A, rfl⟩ : ∃ A : Nat, a = (A : Int) := ⟨a.toNat, by omega⟩
      have hA : A < ps.length := by omega
      have hwk := wr1 (i := k) (by omega)
      cases h3 : inR ps[A] (-1) (ps.length - 1)
      · have hb := hbad (hk.bad hc1 hc2 (nxP_at hA) h3)
        simp [hc1, hA, hw1, ]
        refine call_f (VC.to (w_impl_within ps[A] (-1) (ps.length - 1)) (show _ = V.d (.bool false) by rw [h3])) (by simp) rfl fun hs3 hh3 => ?_
        simp [hb]
      · refine anyQ fun Q => ?_
        simp [hc1, hA, hw1, ]
        refine call_f (VC.to (w_impl_within ps[A] (-1) (ps.length - 1)) (show _ = V.d (.bool true) by rw [h3])) (by simp) rfl fun hs3 hh3 => ?_
        simp at hh3
        simp [hwk, ]
        exact back (k + 1, ps[A]) (hk.step hc1 hc2 (nxP_at hA) h3) (by simp only; omega) rfl (by simp <;> omega) (by simp) (by simp)
    have hfin := hk.fin hc
    by_cases ha : a < 0
    · have hok : treeAt ps i = true := by rw [hend, hfin]; simpa using ha
      have ha' : ¬ 0 ≤ a := by omega
      by_cases hk2 : k ≤ ps.length
      · simp [hk2, ha, ha', hwi, ]
        exact back (i + 1) (hi.step hlt hok) (by omega) rfl (by simp <;> omega) (by simp [hR]) (by simp)
      · simp [hk2, ha, ha', hwi, ]
        exact back (i + 1) (hi.step hlt hok) (by omega) rfl (by simp <;> omega) (by simp [hR]) (by simp)
    · have hb := hbad (by rw [hend, hfin]; simpa using ha)
      have hk2 : ¬ k ≤ ps.length := fun h => hc ⟨h, by omega⟩
      simp [hk2, show 0 ≤ a by omega, hb, ]
theorem w_impl_topsOf (bags : List (List Int)) (ps : List Int) (v : Int) (hl2 : bags.length = ps.length) (hp : ∀ i (h : i < ps.length), -1 ≤ ps[i] ∧ ps[i] < ps.length) : VC Tryz.prog 73 [.d (pS (cP cI) bags), .d (pS cI ps), .d (.int .i64 v)] (fun _ r => r = .d (.int .i64 (topN bags ps v bags.length))) := by
  refine VC.ofL EP s73 (by kernel_rfl) Tryz.func73 (by rfl) (by kernel_rfl) (by simp [Tryz.f73]) (by simp [Tryz.f73]) s73_ok fun B hl => ?_
  simp [pS, maxLen] at hl
  simp [Tryz.f73, ]
  refine loop_rule (X := Nat) (fun i => i ≤ bags.length) (fun i => [(0, .d (.pl (bags.map (cP cI)))), (1, .d (.pl (ps.map cI))), (2, .d (.int .i64 v)), (7, .d (.int .i64 (topN bags ps v i))), (10, .d (.pl (bags.map (cP cI)))), (11, .d (.int .i64 bags.length)), (12, .d (.int .i64 i))]) (fun _ => []) (fun i => bags.length - i) 0 (by simp) (by simp [topN]) (by simp) ?_
  intro i hs t m hi hh
  by_cases hlt : i < bags.length
  · have hwi := wr1 (i := i) (by omega)
    have hlp : i < ps.length := by omega
    have hst := topN_step bags ps v i
    have htl := topN_le bags ps v i
    have hwt : IntKind.i64.wrap ((topN bags ps v i : Int) + 1) = topN bags ps v i + 1 := wrap64_of (by omega) (by omega)
    have hpi := hp i hlp
    simp [hlt, ]
    refine call_f (w_impl_hasInt bags[i] v) (by simp) rfl fun hs3 hh3 => ?_
    simp at hh3
    by_cases h1 : v ∈ bags[i]
    case neg =>
      have e : topIs bags ps v i = false := by rw [topIs, getD_el _ hlt]; simp [h1]
      rw [e] at hst
      simp only [Bool.false_eq_true, if_false, Nat.add_zero] at hst
      simp [h1, hwi, ]
      exact back (i + 1) (by omega) (by omega) rfl (by simp <;> omega) (by simp [hst]) (by simp)
    by_cases h2 : ps[i] < 0
    · have e : topIs bags ps v i = true := by rw [topIs, getD_el _ hlt, getD_el _ hlp]; simp [h1, h2]
      rw [e] at hst
      simp only [if_true] at hst
      simp [h1, h2, hlp, hwi, hwt, ]
      exact back (i + 1) (by omega) (by omega) rfl (by simp <;> omega) (by simp [hst]) (by simp)
    obtain ⟨A, hA⟩ : ∃ A : Nat, ps[i] = (A : Int) := ⟨ps[i].toNat, by omega⟩
    have hAl : A < bags.length := by omega
    have h2' : ¬ (A : Int) < 0 := by omega
    simp [h1, hA, hAl, hlp, ]
    refine call_f (w_impl_hasInt bags[A] v) (by simp) rfl fun hs4 hh4 => ?_
    simp at hh4
    by_cases h3 : v ∈ bags[A]
    · have e : topIs bags ps v i = false := by rw [topIs, getD_el _ hlt, getD_el _ hlp, hA, Int.toNat_natCast, getD_el _ hAl]; simp [h1, h3]
      rw [e] at hst
      simp only [Bool.false_eq_true, if_false, Nat.add_zero] at hst
      simp [h3, h2', hwi, ]
      exact back (i + 1) (by omega) (by omega) rfl (by simp <;> omega) (by simp [hst]) (by simp)
    · have e : topIs bags ps v i = true := by rw [topIs, getD_el _ hlt, getD_el _ hlp, hA, Int.toNat_natCast, getD_el _ hAl]; simp [h1, h3]
      rw [e] at hst
      simp only [if_true] at hst
      simp [h3, h2', hwi, hwt, ]
      exact back (i + 1) (by omega) (by omega) rfl (by simp <;> omega) (by simp [hst]) (by simp)
  · have hn : i = bags.length := by omega
    subst hn
    simp
end

end Go.Proofs.YtpbcmlolapdfjaaGreatDoor


namespace Go.Proofs.YtpbcmlolapdfjaaGreatDoor
open Go.Vs Go.Proofs Go
set_option maxRecDepth 100000
set_option maxHeartbeats 1000000

section
attribute [local simp] plI_id plStr_id map_plI map_plStr pS cP cI cStr cU8 cB
theorem w_impl_IsValidDecomposition (q : PQuery) (d : PDec) (hb : d.par.length ≤ 4294967296) : VC Tryz.prog 51 [.agg ((eQuery q).map V.d), .agg ((eDec d).map V.d)] (fun _ r => r = .d (.bool (decOk q d))) := by
  refine VC.ofL EP s51 (by kernel_rfl) Tryz.func51 (by rfl) (by kernel_rfl) (by simp [Tryz.f51]) (by simp [Tryz.f51]) s51_ok fun B hl => ?_
  obtain ⟨bags, ps⟩ := d
  simp only at hb
  simp [Tryz.f51, s51_17, s51_17, eQuery, eDec]
  refine call_f (w_impl_IsValidQuery q) (by simp [eQuery]) rfl fun hs1 hh1 => ?_
  simp at hh1
  cases h1 : queryOk q
  · simp [decOk_q (d := ⟨bags, ps⟩) h1]
  have hn := queryOk_n5 h1
  by_cases h2 : bags.length = ps.length
  case neg => simp [h2, decOk_l (q := q) (d := ⟨bags, ps⟩) h2, s51_17, ]
  simp [h2, s51_17, ]
  refine call_f (w_impl_isTree ps hb) (by simp) rfl fun hs2 hh2 => ?_
  simp at hh2
  cases h3 : treeB ps
  · simp [decOk_t (q := q) (d := ⟨bags, ps⟩) h3]
  have hpar := tree_par h3
  simp [h2, s51_17, ]
  refine loop_rule (X := Nat) (ToI (bagI q.n) bags) (fun i => [(2, .ptr 2 0 0), (5, .ptr 5 0 0), (34, .d (.pl (bags.map (cP cI)))), (35, .d (.int .i64 ps.length)), (36, .d (.int .i64 i))])
    (fun _ => [(2, some (.box [.d (.int .i64 q.n), .d (.pl (q.atoms.map eAtom)), .d (.pl (q.out.map cI))])), (5, some (.box [.d (.pl (bags.map (cP cI))), .d (.pl (ps.map cI))]))]) (fun i => bags.length - i) 0 .zero (by simp [eAtom]) (by simp) ?_
  intro i hs t m hi hh
  have hle := hi.le
  by_cases hlt : i < bags.length
  · have hltp : i < ps.length := by omega
    have hwi := wr1 (i := i) (by omega)
    simp [hlt, hltp, s51_17, ]
    refine call_f (w_impl_isBag q bags[i]) (by simp [eQuery]) rfl fun hs3 hh3 => ?_
    simp at hh3
    cases h4 : bagI q.n bags[i]
    · simp [decOk_b (q := q) (d := ⟨bags, ps⟩) hlt h4]
    simp [hwi, s51_17, ]
    exact back (i + 1) (hi.step hlt h4) (by omega) rfl (by simp <;> omega) (by simp) (by simp)
  have hbags := hi.done (by omega)
  have hlp : ¬ i < ps.length := by omega
  simp [hlt, hlp, s51_17, ]
  refine loop_rule (X := Nat) (ToI (anyIn bags) q.atoms) (fun i => [(2, .ptr 2 0 0), (5, .ptr 5 0 0), (46, .d (.pl (q.atoms.map eAtom))), (47, .d (.int .i64 q.atoms.length)), (48, .d (.int .i64 i))])
    (fun _ => [(2, some (.box [.d (.int .i64 q.n), .d (.pl (q.atoms.map eAtom)), .d (.pl (q.out.map cI))])), (5, some (.box [.d (.pl (bags.map (cP cI))), .d (.pl (ps.map cI))]))]) (fun i => q.atoms.length - i) 0 .zero (by simp) (by simp) ?_
  intro i hs t m hi hh
  have hle := hi.le
  have hat4 : q.atoms.length ≤ 4 := by
    cases h2 : inR (q.atoms.length : Int) 1 4
    · rw [queryOk_a h2] at h1; cases h1
    · simp only [inR, Bool.and_eq_true, decide_eq_true_eq] at h2; omega
  by_cases hlt : i < q.atoms.length
  · have hwi := wr1 (i := i) (by omega)
    obtain ⟨nm, vs, hT⟩ : ∃ nm vs, q.atoms[i] = ⟨nm, vs⟩ := ⟨_, _, rfl⟩
    have hav : (avars ⟨nm, vs⟩).length ≤ 5 := avTo_len ⟨nm, vs⟩ 5
    have hall : anyTo (inAB ⟨nm, vs⟩) bags bags.length = anyIn bags q.atoms[i] := by rw [anyTo_all (Nat.le_refl _), hT]; rfl
    simp [hlt, hT, eAtom, s51_17, ]
    refine loop_rule (X := Nat) (fun j => j ≤ bags.length) (fun j => [(2, .ptr 2 0 0), (5, .ptr 5 0 0), (9, .ptr 9 0 0), (10, .d (.bool (anyTo (inAB ⟨nm, vs⟩) bags j))), (46, .d (.pl (q.atoms.map eAtom))), (47, .d (.int .i64 q.atoms.length)), (48, .d (.int .i64 i)), (53, .d (.pl (bags.map (cP cI)))), (54, .d (.int .i64 bags.length)), (55, .d (.int .i64 j))])
      (fun _ => [(2, some (.box [.d (.int .i64 q.n), .d (.pl (q.atoms.map eAtom)), .d (.pl (q.out.map cI))])), (5, some (.box [.d (.pl (bags.map (cP cI))), .d (.pl (ps.map cI))])), (9, some (.box [.d (.str nm), .d (.pl (vs.map cI))]))]) (fun j => bags.length - j) 0 (by simp) (by simp [anyTo_zero]) (by simp) ?_
    intro j hs t m hj hh
    by_cases hjt : j < bags.length
    · have hwj := wr1 (i := j) (by omega)
      have hst := anyTo_step (f := inAB ⟨nm, vs⟩) hjt
      refine anyQ fun Q => ?_
      cases h6 : anyTo (inAB ⟨nm, vs⟩) bags j
      · rw [h6, Bool.false_or] at hst
        simp [hjt, s51_17, ]
        refine call_p (w_impl_AtomVariables ⟨nm, vs⟩) (by simp [eAtom]) fun hs5 hh5 hl5 => ?_
        simp at hh5
        simp [s51_17, ]
        refine call_p (w_impl_common (avars ⟨nm, vs⟩) bags[j] (by omega)) (by simp) fun hs6 hh6 hl6 => ?_
        simp at hh6
        simp [s51_17, ]
        refine call_p (w_impl_AtomVariables ⟨nm, vs⟩) (by simp [eAtom]) fun hs7 hh7 hl7 => ?_
        simp at hh7
        by_cases h7 : (commL (avars ⟨nm, vs⟩) bags[j]).length = (avars ⟨nm, vs⟩).length
        · have e : inAB ⟨nm, vs⟩ bags[j] = true := by rw [inAB, decide_eq_true h7]
          rw [e] at hst
          simp [h7, hwj, s51_17, ]
          exact back (j + 1) (by omega) (by omega) rfl (by simp <;> omega) (by simp [hst]) (by simp)
        · have e : inAB ⟨nm, vs⟩ bags[j] = false := by rw [inAB, decide_eq_false h7]
          rw [e] at hst
          simp [h7, hwj, s51_17, ]
          exact back (j + 1) (by omega) (by omega) rfl (by simp <;> omega) (by simp [hst]) (by simp)
      · rw [h6, Bool.true_or] at hst
        simp [hjt, hwj, s51_17, ]
        exact back (j + 1) (by omega) (by omega) rfl (by simp <;> omega) (by simp [hst]) (by simp)
    · have hjn : j = bags.length := by omega
      subst hjn
      cases h7 : anyIn bags q.atoms[i]
      · rw [h7] at hall
        simp [hall, decOk_a (q := q) (d := ⟨bags, ps⟩) hlt h7, s51_17, ]
      · rw [h7] at hall
        simp [hall, hwi, s51_17, ]
        exact back (i + 1) (hi.step hlt h7) (by omega) rfl (by simp <;> omega) (by simp) (by simp)
  have hats := hi.done (by omega)
  simp [hlt, s51_17, ]
  refine loop_rule (X := Nat) (VarI ⟨bags, ps⟩ q.n.toNat) (fun v => [(2, .ptr 2 0 0), (5, .ptr 5 0 0), (13, .d (.int .i64 v))]) (fun _ => [(2, some (.box [.d (.int .i64 q.n), .d (.pl (q.atoms.map eAtom)), .d (.pl (q.out.map cI))])), (5, some (.box [.d (.pl (bags.map (cP cI))), .d (.pl (ps.map cI))]))]) (fun v => q.n.toNat - v) 0 .zero (by simp) (by simp) ?_
  intro v hs t m hv hh
  have hvn := hv.le
  by_cases hvt : v < q.n.toNat
  · have hwv := wr1 (i := v) (by omega)
    have hvt' : (v : Int) < q.n := by omega
    simp [hvt', s51_17, ]
    refine call_f (w_impl_topsOf bags ps v h2 hpar) (by simp) rfl fun hs5 hh5 => ?_
    simp at hh5
    by_cases h7 : topN bags ps (v : Int) bags.length = 1
    · simp [h7, hwv, s51_17, ]
      exact back (v + 1) (hv.step hvt h7) (by omega) rfl (by simp <;> omega) (by simp) (by simp)
    · have h7' : ¬ (topN bags ps (v : Int) bags.length : Int) = 1 := by omega
      simp [h7', h7, decOk_v (q := q) (d := ⟨bags, ps⟩) hvt h7, s51_17, ]
  · have hvs := hv.done (by omega)
    have hvt' : ¬ (v : Int) < q.n := by omega
    simp [hvt', decOk_all (q := q) (d := ⟨bags, ps⟩) h1 h2 h3 hbags hats hvs, s51_17, ]
end

end Go.Proofs.YtpbcmlolapdfjaaGreatDoor


namespace Go.Proofs.YtpbcmlolapdfjaaGreatDoor
open Go.Vs Go.Proofs Go
set_option maxRecDepth 100000
set_option maxHeartbeats 1000000

theorem erI (l : List Int) : erLL (l.map cI) = l.map cI := by
  have := erLL_map er_cI l
  simpa [plI_id, map_plI] using this
@[simp] theorem start5 (a b c d e : V) (B : Nat) : St.start [a, b, c, d, e] B = ⟨B, B, [], upd (upd (upd (upd (upd (fun _ => .tup []) 4 e) 3 d) 2 c) 1 b) 0 a, fun _ => none⟩ := by
  simp only [St.start, St.mk.injEq, true_and, and_true]
  funext i; match i with | 0 => rfl | 1 => rfl | 2 => rfl | 3 => rfl | 4 => rfl | _ + 5 => rfl
section
attribute [local simp] plI_id plStr_id map_plI map_plStr pS cP cI
theorem e_copyIntsT (l : List Int) (hb : l.length ≤ 4294967296) :
   VC Tryz.prog 45 [.d (pS cI l)] (fun n r => ∃ g : Option Nat, r = .d (.sl g (some (3, 1)) (l.map cI)) ∧ (l = [] → True) ∧ (∀ k, g = some k → n ≤ k) ∧ (g = none → l = [])) := by
  refine VC.of E s45 (by kernel_rfl) Tryz.func45 (by rfl) (by kernel_rfl) (by simp [Tryz.f45]) (by simp [Tryz.f45]) s45_ok fun B => ?_
  have hL : LenOk 8 l.length := ⟨by omega, by simp only [maxLen]; omega⟩
  have hp : hpLL (l.map cI) = false := hpLL_mapI l
  simp [Tryz.f45, hL, hp, List.take_of_length_le]
  intro γ hs' h1 hg
  obtain ⟨q1, q2⟩ := gam_at hg (k := 3) (T := 3) (sz := 1) (es := l.map cI) (by simp)
  clear hg
  refine ⟨fun k hk => (q1 k hk).1, fun h => ?_⟩
  exact Classical.byContradiction fun hl => q2 (by simpa using hl) h
def avI (vs : List Int) (i : Nat) : List Int := (rangeI i).filter fun v => vs.contains v
theorem avI_zero (vs : List Int) : avI vs 0 = [] := rfl
theorem w_impl_AtomVariablesA (a : PAtom) : VC Tryz.prog 70 [.agg ((eAtom a).map V.d)] (fun _ r => r = .d (pS cI (aVars a.vars))) := by
  obtain ⟨nm, vs⟩ := a
  refine VC.ofL EP s70 (by kernel_rfl) Tryz.func70 (by rfl) (by kernel_rfl) (by simp [Tryz.f70]) (by simp [Tryz.f70]) s70_ok fun B hl => ?_
  simp [Tryz.f70, eAtom, cStr]
  refine loop_ruleL (X := Nat) (fun i _ => i ≤ 5) (fun i => [(1, .ptr 1 0 0), (3, .own 15 0 (avI vs i).length), (4, .d (.int .i64 i))]) (fun i => [(1, some (.box [.d (.str nm), .d (.pl (vs.map cI))])), (15, some (.row 3 1 ((avI vs i).map cI)))]) (fun i => 5 - i) ?_ ?_
  · refine (lead_slot 3 15 3 1 (by omega) (by omega) (by simp)).bind ?_
    rintro _ rfl
    exact Lead.of ⟨0, by omega, rfl, rfl, Nat.le_refl _, by simp [avI_zero], by simp [avI_zero]⟩
  intro i hs t m hi hh
  by_cases hlt : i < 5
  · have hwi := wr1 (i := i) (by omega)
    have hlz : (i : Int) < 5 := by omega
    have hlen : (avI vs i).length ≤ i := by
      have := List.length_filter_le (fun v => vs.contains v) (rangeI i)
      rw [rangeI_len] at this
      exact this
    have hL : LenOk 8 ((avI vs i).length + 1) := ⟨by omega, by simp only [maxLen]; omega⟩
    have hs' : avI vs (i + 1) = avI vs i ++ if vs.contains (i : Int) then [(i : Int)] else [] := by
      rw [avI, avI, rangeI_succ, List.filter_append]
      cases h : vs.contains (i : Int) <;> simp only [List.filter_cons, List.filter_nil, h] <;> rfl
    obtain ⟨L, hLd⟩ : ∃ L, L = avI vs i := ⟨_, rfl⟩
    rw [← hLd] at hL hs' hlen ⊢
    refine anyQ2 fun Q => ?_
    simp [hlz, ]
    refine call_f (w_impl_ContainsVariable ⟨nm, vs⟩ i) (by simp [eAtom, cStr]) rfl fun hs1 hh1 => ?_
    simp at hh1
    cases hc : vs.contains (i : Int)
    · rw [hc] at hs'
      simp only [Bool.false_eq_true, if_false, List.append_nil] at hs'
      simp [hwi, ]
      refine back2 (i + 1) (by omega) (by omega) rfl (by simp <;> omega) ?_ ?_
      · rw [hs']; simp
      · rw [hs']; simp
    · rw [hc] at hs'
      simp only [if_true] at hs'
      simp [hwi, hL, List.take_of_length_le, ]
      refine back2 (i + 1) (by omega) (by omega) rfl (by simp <;> omega) ?_ ?_
      · rw [hs']; simp
      · rw [hs']; simp
  · have hn : i = 5 := by omega
    subst hn
    have e : avI vs 5 = aVars vs := rfl
    rw [e]
    simp [List.take_of_length_le, ]
end
section
attribute [local simp] plI_id plStr_id map_plI map_plStr pS cP cI dSl
theorem uniL_snoc {a b : List Int} {i : Nat} (h : i < b.length) : uniL a (b.take (i + 1)) = insI (uniL a (b.take i)) b[i] := by
  rw [List.take_succ_eq_append_getElem h, uniL, List.foldl_append]; rfl
theorem insI_len (l : List Int) (n : Int) : (insI l n).length ≤ l.length + 1 := by
  rw [insI]
  split
  · omega
  · simp only [List.length_append, List.length_take, List.length_cons, List.length_drop]; omega
theorem uniL_len (a : List Int) : ∀ (b : List Int), (uniL a b).length ≤ a.length + b.length := by
  intro b
  induction b generalizing a with
  | nil => simp [uniL]
  | cons x r ih =>
    have h1 := ih (insI a x)
    have h2 := insI_len a x
    have : uniL a (x :: r) = uniL (insI a x) r := rfl
    rw [this, List.length_cons]; omega
theorem t_impl_unite (a b : Ints) (hl : a.xs.length + b.xs.length ≤ 1000) : VC Tryz.prog 49 [.d (dSl cI a), .d (dSl cI b)] (fun n r => ∃ y : Ints, r = .d (dSl cI y) ∧ y.xs = uniL a.xs b.xs ∧ okS okI y ∧ Good (cS cI y) (whS whI y) n) := by
  refine VC.ofB E s49 (by kernel_rfl) Tryz.func49 (by rfl) (by kernel_rfl) (by simp [Tryz.f49]) (by simp [Tryz.f49]) s49_ok fun B hB => ?_
  obtain ⟨aid, aT, al⟩ := a
  obtain ⟨bid, bT, bl⟩ := b
  simp only at hl
  have hbB : ∀ g, bid = some g → g < B := fun g h => hB g (by simp [idsVL, V.ids, D.ids, h])
  simp [Tryz.f49, s49_9]
  refine call_some ((e_copyIntsT al (by omega)).er (As := [.d (dSl cI ⟨aid, aT, al⟩)]) (by simp [erI])) (by simp) (by simp) fun n1 hs1 r1 hn1 hm1 hp1 hr1 => ?_
  obtain ⟨g1, rfl, _, hg1, hg1n⟩ := hp1
  have hi1 : ∀ k, g1 = some k → k < hs1 := fun k hk => hr1 k (by simp [V.ids, D.ids, hk])
  simp at hn1
  simp [s49_9, ]
  refine loop_ruleL (X := Nat × Option Nat) (fun p h => p.1 ≤ bl.length ∧ (∀ g, p.2 = some g → B ≤ g ∧ g < h) ∧ (p.2 = none → uniL al (bl.take p.1) = [])) (fun p => [(5, .d (.sl p.2 (some (3, 1)) ((uniL al (bl.take p.1)).map cI))), (11, .d (.sl bid bT (bl.map cI))), (12, .d (.int .i64 bl.length)), (13, .d (.int .i64 p.1))]) (fun _ => []) (fun p => bl.length - p.1) ?_ ?_
  · exact Lead.of ⟨(0, g1), ⟨by simp, fun g hg => ⟨by have := hg1 g hg; omega, hi1 g hg⟩, fun h => by simpa [uniL] using hg1n h⟩, rfl, rfl, Nat.le_refl _, by simp [uniL], by simp⟩
  rintro ⟨i, id⟩ hs t m ⟨hi, hid, hnone⟩ hh
  simp only at hi hid hnone
  by_cases hlt : i < bl.length
  · have hwi := wr1 (i := i) (by omega)
    have hst := uniL_snoc (a := al) hlt
    have hul := uniL_len al (bl.take i)
    rw [List.length_take] at hul
    obtain ⟨l, hld⟩ : ∃ l, l = uniL al (bl.take i) := ⟨_, rfl⟩
    obtain ⟨n, hn⟩ : ∃ n, n = bl[i] := ⟨_, rfl⟩
    rw [← hld, ← hn] at hst
    rw [← hld] at hul hnone ⊢
    refine anyQ2 fun Q => ?_
    simp [hlt, ← hn, s49_9, ]
    refine loop_rule (X := Nat) (fun k => k ≤ l.length ∧ AllTo (fun x => decide (x < n)) l k) (fun k => [(5, .d (.sl id (some (3, 1)) (l.map cI))), (7, .d (.int .i64 n)), (8, .d (.int .i64 k)), (11, .d (.sl bid bT (bl.map cI))), (12, .d (.int .i64 bl.length)), (13, .d (.int .i64 i))]) (fun _ => []) (fun k => l.length - k) 0 ⟨by simp, allTo_zero⟩ (by simp) (by simp) ?_
    rintro k hs2 t2 m2 ⟨hk, hal⟩ hh2
    by_cases hkl : k < l.length
    · by_cases hless : l[k] < n
      · have hwk := wr1 (i := k) (by omega)
        refine anyQ fun Q => ?_
        simp [hkl, hless, hwk, s49_9, ]
        exact back (k + 1) ⟨by omega, allTo_step hal hkl (by simp [hless])⟩ (by omega) rfl (by simp <;> omega) (by simp) (by simp)
      have hK : (l.takeWhile fun x => decide (x < n)).length = k := takeWhile_at hal hk fun h => by simp [hless]
      by_cases heq : l[k] = n
      · have hins : insI l n = l := by rw [insI, hK, getD_el _ hkl, if_pos heq]
        simp [hkl, hless, heq, hwi, show ¬ (k : Int) = l.length by omega, s49_9, ]
        refine back2 (i + 1, id) ⟨by simp only; omega, fun g hg => ?_, fun h => ?_⟩ (by simp only; omega) rfl (by simp <;> omega) (by simp [hst, hins]) (by simp)
        · have := hid g hg; exact ⟨this.1, by simp; omega⟩
        · rw [hst, hins]; exact hnone h
      · have hins : insI l n = l.take k ++ n :: l.drop k := by rw [insI, hK, getD_el _ hkl, if_neg heq]
        simp [hkl, hless, heq, hwi, show ¬ (k : Int) = l.length by omega, show k ≤ l.length by omega, s49_9, ]
        have hki : k ≤ l.length := hk
        have L1 : LenOk 8 (k + 1) := ⟨by omega, by simp only [maxLen]; omega⟩
        have L1' : LenOk 8 1 := ⟨by omega, by simp only [maxLen]; omega⟩
        have L2 : LenOk 8 (k + 1 + (l.length - k)) := ⟨by omega, by simp only [maxLen]; omega⟩
        have L2' : LenOk 8 (1 + l.length) := ⟨by omega, by simp only [maxLen]; omega⟩
        have hmn : min k l.length = k := by omega
        have hpl : ∀ L : List Int, hpLL (L.map cI) = false := fun L => hpLL_mapI L
        repeat' apply And.intro
        all_goals
          refine call_some ((e_copyIntsT (l.take k) (by simp; omega)).er (by simp only [← List.map_take]; simp [-List.map_take, erI])) (by simp) (by simp) fun n2 hs3 r2 hn2 hm2 hp2 hr2 => ?_
          obtain ⟨g2, rfl, _, hg2, hg2n⟩ := hp2
          have hn2' : hs2 ≤ n2 := hn2
          have hins2 : l.take k ++ n :: l.drop k = insI l n := hins.symm
          cases g2 with
          | none =>
            have hk0 : k = 0 := by
              have := congrArg List.length (hg2n rfl)
              simp only [List.length_take, List.length_nil] at this
              by_cases h : l.length = 0
              · omega
              · omega
            subst hk0
            have hins3 : insI l n = n :: l := by simpa using hins
            simp [L1', L2', hwi, List.take_of_length_le, s49_9, ]
            refine Back2.lead (lead_frz 49 (T := 3) (sz := 1) (es := (n :: l).map cI) (by simp)) ?_
            rintro _ ⟨γ, hs', h2, hg, rfl⟩
            obtain ⟨q1, q2⟩ := gam_at hg (k := 49) (T := 3) (sz := 1) (es := (n :: l).map cI) (by simp)
            clear hg
            simp only at h2 q1
            have hp0 := hpl (n :: l)
            have hp1 := hpl l
            refine back2 (i + 1, γ 49) ⟨by simp only; omega, fun g hg => ?_, fun h => absurd h (q2 (by simp))⟩ (by simp only; omega) rfl (by simp <;> omega) (by simp [hst, hins3, hp0, hp1, Vs.frz, St.frz, Nat.add_comm 1, List.take_of_length_le]) (by simp)
            exact ⟨(q1 g hg).1, by simpa using (q1 g hg).2⟩
          | some g =>
            have hgn := hg2 g rfl
            have kg : ∀ j, j < n2 → kphi (some g) j = none := fun j hj => by simp only [kphi]; rw [if_neg (by simp; omega)]
            have e5 : reV (kphi (some g)) (.d (.sl id (some (3, 1)) (l.map cI))) = .d (.sl id (some (3, 1)) (l.map cI)) := reV_id (.d (dSl cI ⟨id, some (3, 1), l⟩)) fun j hj => kg j (by
              rcases mem_sl_ids.1 hj with h | h
              · have := (hid j h).2; omega
              · simp at h)
            have eD : ∀ (T0 : Option (TypeId × Nat)) (L : List Int), reV (kphi (some g)) (.d (.sl id T0 (L.map cI))) = .d (.sl id T0 (L.map cI)) := fun T0 L => reV_id (.d (dSl cI ⟨id, T0, L⟩)) fun j hj => kg j (by
              rcases mem_sl_ids.1 hj with h | h
              · have := (hid j h).2; omega
              · simp at h)
            have e11 : reV (kphi (some g)) (.d (.sl bid bT (bl.map cI))) = .d (.sl bid bT (bl.map cI)) := reV_id (.d (dSl cI ⟨bid, bT, bl⟩)) fun j hj => kg j (by
              rcases mem_sl_ids.1 hj with h | h
              · have := hbB j h; omega
              · simp at h)
            have hgB : B ≤ g := by omega
            have hids : ∀ L : List Int, g ∉ idsLL (L.map cI) := fun L => by simp
            simp [hgB, L1, L2, hmn, hwi, St.kill, e5, e11, eD, ← List.map_take, ← List.map_drop, List.take_of_length_le, s49_9, ]
            refine ⟨by simp [idsLL, idsL, D.ids], ?_⟩
            have a1 : k + 1 + (l.length - k) = l.length + 1 := by omega
            have hil : (insI l n).length = l.length + 1 := by rw [hins]; simp; omega
            refine Back2.lead (lead_frz 49 (T := 3) (sz := 1) (es := (insI l n).map cI) (by rw [hins]; simp [List.map_take, List.map_drop])) ?_
            rintro _ ⟨γ, hs', h2, hg, rfl⟩
            obtain ⟨q1, q2⟩ := gam_at hg (k := 49) (T := 3) (sz := 1) (es := (insI l n).map cI) (by rw [hins]; simp [List.map_take, List.map_drop])
            clear hg
            simp only at h2 q1
            have hp0 := hpl (insI l n)
            refine back2 (i + 1, γ 49) ⟨by simp only; omega, fun g hg => ?_, fun h => absurd h (q2 (by rw [hins]; simp))⟩ (by simp only; omega) rfl (by simp <;> omega) ?_ (by simp)
            · exact ⟨(q1 g hg).1, by simpa using (q1 g hg).2⟩
            · simp [hst, hp0, hil, a1, Vs.frz, St.frz, List.take_of_length_le]
    · have hkn : k = l.length := by omega
      subst hkn
      have hK : (l.takeWhile fun x => decide (x < n)).length = l.length := takeWhile_at hal hk fun h => absurd h hkl
      have hins : insI l n = l ++ [n] := by
        have h0 : l.getD l.length (n + 1) ≠ n := by simp [List.getD]; omega
        rw [insI, hK, if_neg h0]; simp
      simp [hwi, s49_9, ]
      have L1 : LenOk 8 (l.length + 1) := ⟨by omega, by simp only [maxLen]; omega⟩
      have L1' : LenOk 8 1 := ⟨by omega, by simp only [maxLen]; omega⟩
      have hpl : ∀ L : List Int, hpLL (L.map cI) = false := fun L => hpLL_mapI L
      repeat' apply And.intro
      all_goals
        refine call_some ((e_copyIntsT l (by omega)).er (by simp [erI, List.take_of_length_le])) (by simp) (by simp) fun n2 hs3 r2 hn2 hm2 hp2 hr2 => ?_
        obtain ⟨g2, rfl, _, hg2, hg2n⟩ := hp2
        have hn2' : hs2 ≤ n2 := hn2
        cases g2 with
        | none =>
          have hl0 : l = [] := hg2n rfl
          subst hl0
          have hins3 : insI [] n = [n] := by simpa using hins
          simp [L1', hwi, List.take_of_length_le, s49_9, ]
          refine Back2.lead (lead_frz 49 (T := 3) (sz := 1) (es := [n].map cI) (by simp)) ?_
          rintro _ ⟨γ, hs', h2, hg, rfl⟩
          obtain ⟨q1, q2⟩ := gam_at hg (k := 49) (T := 3) (sz := 1) (es := [n].map cI) (by simp)
          clear hg
          simp only at h2 q1
          have hp0 := hpl [n]
          refine back2 (i + 1, γ 49) ⟨by simp only; omega, fun g hg => ?_, fun h => absurd h (q2 (by simp))⟩ (by simp only; omega) rfl (by simp <;> omega) (by simp [hst, hins3, hp0, Vs.frz, St.frz, List.take_of_length_le]) (by simp)
          exact ⟨(q1 g hg).1, by simpa using (q1 g hg).2⟩
        | some g =>
          have hgn := hg2 g rfl
          have kg : ∀ j, j < n2 → kphi (some g) j = none := fun j hj => by simp only [kphi]; rw [if_neg (by simp; omega)]
          have eD : ∀ (T0 : Option (TypeId × Nat)) (L : List Int), reV (kphi (some g)) (.d (.sl id T0 (L.map cI))) = .d (.sl id T0 (L.map cI)) := fun T0 L => reV_id (.d (dSl cI ⟨id, T0, L⟩)) fun j hj => kg j (by
            rcases mem_sl_ids.1 hj with h | h
            · have := (hid j h).2; omega
            · simp at h)
          have e11 : reV (kphi (some g)) (.d (.sl bid bT (bl.map cI))) = .d (.sl bid bT (bl.map cI)) := reV_id (.d (dSl cI ⟨bid, bT, bl⟩)) fun j hj => kg j (by
            rcases mem_sl_ids.1 hj with h | h
            · have := hbB j h; omega
            · simp at h)
          have eD0 : ∀ (T0 : Option (TypeId × Nat)), reV (kphi (some g)) (.d (.sl id T0 [])) = .d (.sl id T0 []) := fun T0 => eD T0 []
          have hgB : B ≤ g := by omega
          simp [hgB, L1, hwi, St.kill, eD, eD0, e11, List.take_of_length_le, s49_9, ]
          refine ⟨by simp [idsLL, idsL, D.ids], ?_⟩
          refine Back2.lead (lead_frz 49 (T := 3) (sz := 1) (es := (insI l n).map cI) (by rw [hins]; simp)) ?_
          rintro _ ⟨γ, hs', h2, hg, rfl⟩
          obtain ⟨q1, q2⟩ := gam_at hg (k := 49) (T := 3) (sz := 1) (es := (insI l n).map cI) (by rw [hins]; simp)
          clear hg
          simp only at h2 q1
          have hp0 := hpl (insI l n)
          have hil : (insI l n).length = l.length + 1 := by rw [hins]; simp
          refine back2 (i + 1, γ 49) ⟨by simp only; omega, fun g hg => ?_, fun h => absurd h (q2 (by rw [hins]; simp))⟩ (by simp only; omega) rfl (by simp <;> omega) ?_ (by simp)
          · exact ⟨(q1 g hg).1, by simpa using (q1 g hg).2⟩
          · simp [hst, hp0, hil, Vs.frz, St.frz, List.take_of_length_le]
  · have hn : i = bl.length := by omega
    subst hn
    simp [hlt, List.take_of_length_le, s49_9, ]
    have hul := uniL_len al bl
    exact ⟨⟨id, some (3, 1), uniL al bl⟩, ⟨rfl, rfl, rfl⟩, rfl, ⟨by simp only [maxLen]; omega, by simp [okI]⟩, good_ints (fun g hg => (hid g hg).1) (fun h hn => h (by simpa using hnone hn))⟩
end

end Go.Proofs.YtpbcmlolapdfjaaGreatDoor


namespace Go.Proofs.YtpbcmlolapdfjaaGreatDoor
open Go.Vs Go.Proofs Go
set_option maxRecDepth 100000
set_option maxHeartbeats 1000000

section
attribute [local simp] plI_id plStr_id map_plI map_plStr pS cP cI
theorem e_impl_unite (a b : List Int) (hl : a.length + b.length ≤ 1000) : VC Tryz.prog 49 [.d (pS cI a), .d (pS cI b)] (fun n r => ∃ y : Ints, r = .d (dSl cI y) ∧ y.xs = uniL a b ∧ okS okI y ∧ Good (cS cI y) (whS whI y) n) := by
  refine VC.untrack (t_impl_unite ⟨none, none, []⟩ ⟨none, none, []⟩ (by simp)) (by simp [pnVL, V.pn, D.pn]) fun As h1 h2 h3 => ?_
  obtain ⟨x, y, rfl, ⟨hx, tx, _⟩, hy, ty, _⟩ := rp_args2 h1 h2 h3
  obtain ⟨s, rfl, e1⟩ := rp_sl tk_I hx tx
  obtain ⟨t, rfl, e2⟩ := rp_sl tk_I hy ty
  simp [plS] at e1 e2
  have := t_impl_unite s t (by rw [e1, e2]; exact hl)
  rw [e1, e2] at this
  exact this
theorem p_impl_unite (a b : List Int) (hl : a.length + b.length ≤ 1000) : VC Tryz.prog 49 [.d (pS cI a), .d (pS cI b)] (fun _ r => r = .d (pS cI (uniL a b))) := by
  refine VC.plain (e_impl_unite a b hl) (fun n r h => ?_) (by rw [pS]; rfl)
  obtain ⟨y, rfl, e1, _, _⟩ := h
  have e := er_cS (c := cI) (e := cI) (pl := plI) er_cI y
  simp [plS, e1, cS, erL] at e
  simp only [rp, e, pS]
end

end Go.Proofs.YtpbcmlolapdfjaaGreatDoor


namespace Go.Proofs.YtpbcmlolapdfjaaGreatDoor
open Go.Vs Go.Proofs Go
set_option maxRecDepth 100000
set_option maxHeartbeats 1000000

theorem flt_step {p : Int → Bool} {l : List Int} {i : Nat} (h : i < l.length) : (l.take (i + 1)).filter p = (l.take i).filter p ++ if p l[i] then [l[i]] else [] := by
  rw [List.take_succ_eq_append_getElem h, List.filter_append]
  cases e : p l[i] <;> simp [e]
section
attribute [local simp] plI_id plStr_id map_plI map_plStr pS cP cI cU8 cB
theorem p_impl_common (l b : List Int) (hb : l.length ≤ 4294967296) : VC Tryz.prog 48 [.d (pS cI l), .d (pS cI b)] (fun _ r => r = .d (pS cI (comL l b))) := by
  refine VC.ofL EP s48 (by kernel_rfl) Tryz.func48 (by rfl) (by kernel_rfl) (by simp [Tryz.f48]) (by simp [Tryz.f48]) s48_ok fun B hl => ?_
  simp [Tryz.f48, ]
  refine loop_ruleL (X := Nat) (fun i _ => i ≤ l.length) (fun i => [(1, .d (.pl (b.map cI))), (5, .own 20 0 (comL (l.take i) b).length), (8, .d (.pl (l.map cI))), (9, .d (.int .i64 l.length)), (10, .d (.int .i64 i))]) (fun i => [(20, some (.row 3 1 ((comL (l.take i) b).map cI)))]) (fun i => l.length - i) ?_ ?_
  · refine (lead_slot 5 20 3 1 (by omega) (by omega) (by simp)).bind ?_
    rintro _ rfl
    exact Lead.of ⟨0, by omega, rfl, rfl, Nat.le_refl _, by simp [comL], by simp [comL]⟩
  intro i hs t m hi hh
  by_cases hlt : i < l.length
  · have hwi := wr1 (i := i) (by omega)
    have hst : comL (l.take (i + 1)) b = comL (l.take i) b ++ if b.contains l[i] then [l[i]] else [] := flt_step hlt
    have hcl := List.length_filter_le (fun v => b.contains v) (l.take i)
    rw [List.length_take] at hcl
    have hL : LenOk 8 ((comL (l.take i) b).length + 1) := ⟨by simp only [comL]; omega, by simp only [maxLen, comL]; omega⟩
    simp [hlt, ]
    refine call_f (w_impl_hasInt b l[i]) (by simp) rfl fun hs1 hh1 => ?_
    simp at hh1
    by_cases h1 : l[i] ∈ b
    · have e : b.contains l[i] = true := by simpa using h1
      rw [e] at hst
      simp only [if_true] at hst
      simp [h1, hwi, hL, ]
      exact back2 (i + 1) (by omega) (by omega) rfl (by simp <;> omega) (by simp [hst]) (by simp [hst])
    · have e : b.contains l[i] = false := by simpa using h1
      rw [e] at hst
      simp only [Bool.false_eq_true, if_false, List.append_nil] at hst
      simp [h1, hwi, ]
      exact back2 (i + 1) (by omega) (by omega) rfl (by simp <;> omega) (by simp [hst]) (by simp [hst])
  · have hn : i = l.length := by omega
    subst hn
    simp [List.take_of_length_le]
theorem p_impl_without (l : List Int) (v : Int) (hb : l.length ≤ 4294967296) : VC Tryz.prog 50 [.d (pS cI l), .d (.int .i64 v)] (fun _ r => r = .d (pS cI (l.filter fun x => !(decide (x = v))))) := by
  refine VC.ofL EP s50 (by kernel_rfl) Tryz.func50 (by rfl) (by kernel_rfl) (by simp [Tryz.f50]) (by simp [Tryz.f50]) s50_ok fun B hl => ?_
  simp [Tryz.f50, ]
  obtain ⟨p, hp⟩ : ∃ p : Int → Bool, p = fun x => !(decide (x = v)) := ⟨_, rfl⟩
  rw [← hp]
  refine loop_ruleL (X := Nat) (fun i _ => i ≤ l.length) (fun i => [(1, .d (.int .i64 v)), (5, .own 20 0 ((l.take i).filter p).length), (8, .d (.pl (l.map cI))), (9, .d (.int .i64 l.length)), (10, .d (.int .i64 i))]) (fun i => [(20, some (.row 3 1 (((l.take i).filter p).map cI)))]) (fun i => l.length - i) ?_ ?_
  · refine (lead_slot 5 20 3 1 (by omega) (by omega) (by simp)).bind ?_
    rintro _ rfl
    exact Lead.of ⟨0, by omega, rfl, rfl, Nat.le_refl _, by simp, by simp⟩
  intro i hs t m hi hh
  by_cases hlt : i < l.length
  · have hwi := wr1 (i := i) (by omega)
    have hst := flt_step (p := p) hlt
    have hcl := List.length_filter_le p (l.take i)
    rw [List.length_take] at hcl
    have hL : LenOk 8 (((l.take i).filter p).length + 1) := ⟨by omega, by simp only [maxLen]; omega⟩
    by_cases h1 : l[i] = v
    · have e : p l[i] = false := by rw [hp]; simp [h1]
      rw [e] at hst
      simp only [Bool.false_eq_true, if_false, List.append_nil] at hst
      simp [hlt, h1, hwi, ]
      exact back2 (i + 1) (by omega) (by omega) rfl (by simp <;> omega) (by simp [hst]) (by simp [hst])
    · have e : p l[i] = true := by rw [hp]; simp [h1]
      rw [e] at hst
      simp only [if_true] at hst
      simp [hlt, h1, hwi, hL, ]
      exact back2 (i + 1) (by omega) (by omega) rfl (by simp <;> omega) (by simp [hst]) (by simp [hst])
  · have hn : i = l.length := by omega
    subst hn
    simp [List.take_of_length_le]
theorem w_impl_IsValidOrder (q : PQuery) (o : List Int) : VC Tryz.prog 46 [.agg ((eQuery q).map V.d), .d (pS cI o)] (fun _ r => r = .d (.bool (ordOk q o))) := by
  have hqe : (eQuery q).map V.d = [V.d (.int .i64 q.n), V.d (.pl (q.atoms.map eAtom)), V.d (.pl (q.out.map cI))] := by simp [eQuery]
  refine VC.ofL EP s46 (by kernel_rfl) Tryz.func46 (by rfl) (by kernel_rfl) (by simp [Tryz.f46]) (by simp [Tryz.f46]) s46_ok fun B hl => ?_
  simp [Tryz.f46, hqe, ordOk]
  refine call_f (w_impl_IsValidQuery q) (by simp [hqe]) rfl fun hs1 hh1 => ?_
  simp at hh1
  cases hq : queryOk q
  · simp []
  by_cases hn : (o.length : Int) = q.n
  · simp [hn, ]
    refine call_f (w_impl_isSetOf o q.n) (by simp) rfl fun hs2 hh2 => ?_
    simp
  · simp [hn, ]
end

end Go.Proofs.YtpbcmlolapdfjaaGreatDoor


namespace Go.Proofs.YtpbcmlolapdfjaaGreatDoor
open Go.Vs Go.Proofs Go
set_option maxRecDepth 100000
set_option maxHeartbeats 1000000

section
attribute [local simp] plI_id plStr_id map_plI map_plStr pS cP cI cU8 cB
theorem p_impl_Neighbors (q : PQuery) (v : Int) : VC Tryz.prog 47 [.agg ((eQuery q).map V.d), .d (.int .i64 v)] (fun _ r => r = .d (pS cI (nbrL q v))) := by
  have hqe : (eQuery q).map V.d = [V.d (.int .i64 q.n), V.d (.pl (q.atoms.map eAtom)), V.d (.pl (q.out.map cI))] := by simp [eQuery]
  refine VC.ofL EP s47 (by kernel_rfl) Tryz.func47 (by rfl) (by kernel_rfl) (by simp [Tryz.f47]) (by simp [Tryz.f47]) s47_ok fun B hl => ?_
  simp [Tryz.f47, hqe]
  refine call_f (w_impl_IsValidQuery q) (by simp [hqe]) rfl fun hs1 hh1 => ?_
  simp at hh1
  cases hq : queryOk q
  · simp [nbrL, hq]
  have hln := queryOk_a4 hq
  obtain ⟨l, hl⟩ : ∃ l, l = q.atoms := ⟨_, rfl⟩
  have hok := nbr_ok hq v
  rw [← hl] at hln hok
  simp [← hl, ]
  refine loop_ruleL (X := Nat) (fun i _ => i ≤ l.length) (fun i => [(1, .d (.int .i64 v)), (5, .d (.pl ((nbF v (l.take i)).map cI))), (12, .d (.pl (l.map eAtom))), (13, .d (.int .i64 l.length)), (14, .d (.int .i64 i))]) (fun i => []) (fun i => l.length - i) ?_ ?_
  · refine (lead_er 5 (x := .sl none none []) (by simp)).bind ?_
    rintro _ rfl
    exact Lead.of ⟨0, by omega, rfl, rfl, Nat.le_refl _, by simp [nbF, D.er, erLL], by simp⟩
  intro i hs t m hi hh
  by_cases hlt : i < l.length
  · have hwi := wr1 (i := i) (by omega)
    have hsn := nbF_snoc v hlt
    have hbl := nbF_len v (l.take i)
    obtain ⟨⟨nm, vs⟩, ha⟩ : ∃ a, a = l[i] := ⟨_, rfl⟩
    obtain ⟨L, hL⟩ : ∃ L, L = nbF v (l.take i) := ⟨_, rfl⟩
    rw [← ha, ← hL] at hsn
    rw [← hL] at hbl ⊢
    have hav := aVars_len5 vs
    simp [hlt, ← ha, eAtom, cStr]
    refine call_f (w_impl_ContainsVariable ⟨nm, vs⟩ v) (by simp [eAtom, cStr]) rfl fun hs2 hh2 => ?_
    simp at hh2
    cases hc : vs.contains v
    · rw [hc] at hsn
      simp only [Bool.false_eq_true, if_false] at hsn
      simp [hwi, ]
      exact back2 (i + 1) (by omega) (by omega) rfl (by simp <;> omega) (by simp [hsn]) (by simp)
    · rw [hc] at hsn
      simp only [if_true] at hsn
      simp []
      refine call_p (w_impl_AtomVariablesA ⟨nm, vs⟩) (by simp [eAtom, cStr]) fun hs3 hh3 hl3 => ?_
      simp at hh3
      simp []
      refine call_p (p_impl_unite L (aVars vs) (by omega)) (by simp) fun hs4 hh4 hl4 => ?_
      simp at hh4
      simp [hwi, ]
      exact back2 (i + 1) (by omega) (by omega) rfl (by simp <;> omega) (by simp [hsn]) (by simp)
  · have hn : i = l.length := by omega
    subst hn
    have hfl := nbF_len v l
    simp []
    refine call_p (p_impl_without (nbF v l) v (by omega)) (by simp) fun hs5 hh5 hl5 => ?_
    rw [hok]
    simp
end
section
attribute [local simp] plI_id plStr_id map_plI map_plStr pS cP cI cU8 cB
theorem w_spec_IsPermutation (l : List Int) : VC Tryz.prog 60 [.d (pS cI l)] (fun _ r => r = .d (.bool (setOf l l.length && decide (l.length ≤ 5)))) := by
  refine VC.ofL EP s60 (by kernel_rfl) Tryz.func60 (by rfl) (by kernel_rfl) (by simp [Tryz.f60]) (by simp [Tryz.f60]) s60_ok fun B hl => ?_
  simp [pS, maxLen] at hl
  simp [Tryz.f60, s60_4, s60_4, ]
  refine loop_rule (X := Nat) (SetTo l l.length) (fun i => [(0, .d (.pl (l.map cI))), (3, .d (.int .i64 i))]) (fun _ => []) (fun i => l.length - i) 0 .zero (by simp) (by simp) ?_
  intro i hs t m hi hh
  have hil := hi.le
  by_cases hlt : i < l.length
  · have hwi := wr1 (i := i) (by omega)
    simp [hlt, s60_4, ]
    refine call_f (w_spec_l1In l[i] 0 (IntKind.i64.wrap (l.length - 1))) (by simp) rfl fun hs1 hh1 => ?_
    simp at hh1
    cases h1 : inR l[i] 0 (IntKind.i64.wrap (l.length - 1))
    · simp [setOf_bad1 hlt h1]
    simp [hil, hlt, ← List.map_take, s60_4, ]
    refine call_f (w_spec_l7Find (l.take i) l[i]) (by simp) rfl fun hs2 hh2 => ?_
    simp at hh2
    have hge := idxL_ge (l.take i) l[i]
    by_cases h2 : l[i] ∈ l.take i
    · have e : 0 ≤ idxL (l.take i) l[i] := by simpa [h2] using hge
      simp [e, setOf_bad2 hlt h2]
    have e : ¬ 0 ≤ idxL (l.take i) l[i] := by simpa [h2] using hge
    simp [e, hwi, s60_4, ]
    exact back (i + 1) (hi.step hlt h1 h2) (by omega) rfl (by simp <;> omega) (by simp) (by simp)
  · have hd := hi.done (by omega)
    simp [hlt, hd, s60_4, ]
    omega
theorem w_spec_IsValidOrder (q : PQuery) (o : List Int) (hst : ∀ a ∈ q.atoms, a.rel.length ≤ maxLen) : VC Tryz.prog 37 [.agg ((eQuery q).map V.d), .d (pS cI o)] (fun _ r => r = .d (.bool (ordOk q o))) := by
  have hqe : (eQuery q).map V.d = [V.d (.int .i64 q.n), V.d (.pl (q.atoms.map eAtom)), V.d (.pl (q.out.map cI))] := by simp [eQuery]
  refine VC.ofL EP s37 (by kernel_rfl) Tryz.func37 (by rfl) (by kernel_rfl) (by simp [Tryz.f37]) (by simp [Tryz.f37]) s37_ok fun B hl => ?_
  simp [Tryz.f37, hqe, ordOk]
  refine call_f (w_spec_IsValidQuery q hst) (by simp [hqe]) rfl fun hs1 hh1 => ?_
  simp at hh1
  cases hq : queryOk q
  · simp []
  have h5 := queryOk_n5 hq
  by_cases hn : (o.length : Int) = q.n
  · simp [hn, ]
    refine call_f (w_spec_IsPermutation o) (by simp) rfl fun hs2 hh2 => ?_
    simp [hn]
    omega
  · simp [hn, ]
end

end Go.Proofs.YtpbcmlolapdfjaaGreatDoor


namespace Go.Proofs.YtpbcmlolapdfjaaGreatDoor
open Go.Vs Go.Proofs Go
set_option maxRecDepth 100000
set_option maxHeartbeats 1000000

theorem any_step {α : Type} {p : α → Bool} {l : List α} {i : Nat} (h : i < l.length) : (l.take (i + 1)).any p = ((l.take i).any p || p l[i]) := by
  rw [List.take_succ_eq_append_getElem h, List.any_append]; simp
def nbT (v w : Int) (l : List PAtom) (j : Nat) : Bool := !(decide (w = v)) && (l.take j).any fun a => a.vars.contains v && a.vars.contains w
theorem nbT_zero (v w : Int) (l : List PAtom) : nbT v w l 0 = false := by simp [nbT]
theorem nbT_all (q : PQuery) (v w : Int) : nbT v w q.atoms q.atoms.length = nbrB q v w := by simp only [nbT, nbrB, List.take_length]
theorem nbT_succ {v w : Int} {l : List PAtom} {j : Nat} (h : j < l.length) : nbT v w l (j + 1) = (nbT v w l j || (!(decide (w = v)) && (l[j].vars.contains v && l[j].vars.contains w))) := by
  rw [nbT, any_step h, nbT]; cases decide (w = v) <;> simp
section
attribute [local simp] plI_id plStr_id map_plI map_plStr pS cP cI cU8 cB
theorem w_spec_Neighbors (q : PQuery) (v : Int) (hst : ∀ a ∈ q.atoms, a.rel.length ≤ maxLen) : VC Tryz.prog 61 [.agg ((eQuery q).map V.d), .d (.int .i64 v)] (fun _ r => r = .d (pS cI (nbrL q v))) := by
  have hqe : (eQuery q).map V.d = [V.d (.int .i64 q.n), V.d (.pl (q.atoms.map eAtom)), V.d (.pl (q.out.map cI))] := by simp [eQuery]
  refine VC.ofL EP s61 (by kernel_rfl) Tryz.func61 (by rfl) (by kernel_rfl) (by simp [Tryz.f61]) (by simp [Tryz.f61]) s61_ok fun B hl => ?_
  simp [Tryz.f61, hqe, ]
  clear hl
  refine loop_rule (X := Nat) (OrdI q) (fun i => [(1, .d (.int .i64 v)), (2, .ptr 2 0 0), (5, .own 9 0 ((rangeI i).filter (nbrB q v)).length), (6, .d (.int .i64 i))]) (fun i => [(2, some (.box [.d (.int .i64 q.n), .d (.pl (q.atoms.map eAtom)), .d (.pl (q.out.map cI))])), (9, some (.row 3 1 (((rangeI i).filter (nbrB q v)).map cI)))]) (fun i => q.n.toNat - i) 0 ⟨by omega, fun h => by omega⟩ (by simp [rangeI_zero]) (by simp [rangeI_zero]) ?_
  intro i hs t m ⟨hi, hi0⟩ hh
  by_cases hlt : (i : Int) < q.n
  · cases h1 : queryOk q
    · have h0 : i = 0 := by by_cases h : 0 < i; rw [hi0 h] at h1; cases h1; omega
      subst h0
      simp [show (0 : Int) < q.n by omega, ]
      refine call_f (w_spec_IsValidQuery q hst) (by simp [hqe]) rfl fun hs1 hh1 => ?_
      simp [nbrL, h1, rangeI_zero, ]
    have hn := queryOk_n5 h1
    have hwi := wr1 (i := i) (by omega)
    have hal := queryOk_a4 h1
    have hln := List.length_filter_le (nbrB q v) (rangeI i)
    rw [rangeI_len] at hln
    have hL : LenOk 8 (((rangeI i).filter (nbrB q v)).length + 1) := ⟨by omega, by simp only [maxLen]; omega⟩
    have hsn : (rangeI (i + 1)).filter (nbrB q v) = (rangeI i).filter (nbrB q v) ++ if nbrB q v i then [(i : Int)] else [] := by
      rw [rangeI_succ, List.filter_append]; cases e : nbrB q v i <;> simp [e]
    obtain ⟨F, hF⟩ : ∃ F, F = (rangeI i).filter (nbrB q v) := ⟨_, rfl⟩
    rw [← hF] at hsn hL ⊢
    obtain ⟨l, hl⟩ : ∃ l, l = q.atoms := ⟨_, rfl⟩
    have hst' : ∀ a ∈ l, a.rel.length ≤ maxLen := hl ▸ hst
    have hnb : nbT v i l l.length = nbrB q v i := by rw [hl]; exact nbT_all q v i
    rw [← hl] at hal ⊢
    refine anyQ fun Q => ?_
    simp [hlt, ]
    refine call_f (w_spec_IsValidQuery q hst) (by simp [hqe, ← hl]) rfl fun hs1 hh1 => ?_
    simp at hh1
    simp [h1, ]
    refine loop_rule (X := Nat) (fun j => j ≤ l.length) (fun j => [(1, .d (.int .i64 v)), (2, .ptr 2 0 0), (5, .own 9 0 F.length), (6, .d (.int .i64 i)), (7, .d (.bool (nbT v i l j))), (8, .d (.int .i64 j))]) (fun j => [(2, some (.box [.d (.int .i64 q.n), .d (.pl (l.map eAtom)), .d (.pl (q.out.map cI))])), (9, some (.row 3 1 (F.map cI)))]) (fun j => l.length - j) 0 (by omega) (by simp [nbT_zero]) (by simp) ?_
    intro j hs2 t2 m2 hj hh2
    by_cases hjl : j < l.length
    · have hwj := wr1 (i := j) (by omega)
      have hN' := nbT_succ (v := v) (w := i) hjl
      have hax := hst' _ (List.getElem_mem hjl)
      obtain ⟨⟨nm, vs⟩, ha⟩ : ∃ a, a = l[j] := ⟨_, rfl⟩
      rw [← ha] at hN' hax
      simp only at hN'
      obtain ⟨N, hN⟩ : ∃ N, N = nbT v i l j := ⟨_, rfl⟩
      rw [← hN] at hN' ⊢
      cases N with
      | true =>
        simp [hjl, hwj, ]
        simp only [Bool.true_or] at hN'
        exact back (j + 1) (by omega) (by omega) rfl (by simp <;> omega) (by simp [hN']) (by simp)
      | false =>
        by_cases hiv : (i : Int) = v
        · simp [hjl, hwj, eq_true hiv, ]
          have hN2 : nbT v i l (j + 1) = false := by rw [hN']; simp [eq_true hiv]
          exact back (j + 1) (by omega) (by omega) rfl (by simp <;> omega) (by simp [hN2]) (by simp)
        simp [hjl, eq_false hiv, ← ha, eAtom, cStr]
        refine call_f (w_spec_ContainsVariable ⟨nm, vs⟩ v) (by simp [eAtom, cStr]) rfl fun hs3 hh3 => ?_
        simp at hh3
        cases hc : vs.contains v
        · rw [hc] at hN'
          simp [hwj, ]
          have hN2 : nbT v i l (j + 1) = false := by rw [hN']; simp
          exact back (j + 1) (by omega) (by omega) rfl (by simp <;> omega) (by simp [hN2]) (by simp)
        rw [hc] at hN'
        simp [hjl, ← ha, eAtom, cStr]
        refine call_f (w_spec_ContainsVariable ⟨nm, vs⟩ i) (by simp [eAtom, cStr]) rfl fun hs4 hh4 => ?_
        simp at hh4
        simp [hwj, ]
        have hN2 : nbT v i l (j + 1) = vs.contains (i : Int) := by rw [hN']; simp [eq_false hiv]
        exact back (j + 1) (by omega) (by omega) rfl (by simp <;> omega) (by simp [hN2]) (by simp)
    · have hn : j = l.length := by omega
      subst hn
      rw [hnb]
      cases hb : nbrB q v i
      · rw [hb] at hsn
        simp only [Bool.false_eq_true, if_false, List.append_nil] at hsn
        simp [hwi, ]
        exact back (i + 1) ⟨by omega, fun _ => h1⟩ (by omega) rfl (by simp <;> omega) (by simp [hsn]) (by simp [hsn])
      · rw [hb] at hsn
        simp only [if_true] at hsn
        simp [hwi, hL, ]
        exact back (i + 1) ⟨by omega, fun _ => h1⟩ (by omega) rfl (by simp <;> omega) (by simp [hsn]) (by simp [hsn])
  · have hd : (rangeI i).filter (nbrB q v) = nbrL q v := by
      cases h1 : queryOk q
      · have h0 : i = 0 := by by_cases h : 0 < i; rw [hi0 h] at h1; cases h1; omega
        subst h0; simp [nbrL, h1, rangeI_zero]
      · have hn := queryOk_n5 h1
        have : i = q.n.toNat := by omega
        subst this; simp [nbrL, h1]
    simp [hlt, hd, List.take_of_length_le, ]
end

end Go.Proofs.YtpbcmlolapdfjaaGreatDoor


namespace Go.Proofs.YtpbcmlolapdfjaaGreatDoor
open Go.Vs Go.Proofs Go
set_option maxRecDepth 100000
set_option maxHeartbeats 1000000

theorem hpLL_B : ∀ l : List Bool, hpLL (l.map cB) = false
  | [] => rfl
  | b :: l => by simp [hpLL, hpL, D.hp, cB, hpLL_B l]
section
attribute [local simp] plI_id plStr_id map_plI map_plStr pS cP cI
theorem e_spec_l30Joined (q : PQuery) (N : Nat) (hN : q.n = (N : Int)) (hq : queryOk q = true) (hst : ∀ a ∈ q.atoms, a.rel.length ≤ maxLen) : VC Tryz.prog 38 [.agg ((eQuery q).map V.d)]
   (fun n r => ∃ g : Nat, r = .d (.sl (some g) (some (4, 1)) ((mtx N (nbrB q)).map cB)) ∧ n ≤ g) := by
  have hn5 := queryOk_n5 hq
  rw [hN] at hn5
  have h15 : 1 ≤ N ∧ N ≤ 5 := by omega
  have hqe : (eQuery q).map V.d = [V.d (.int .i64 N), V.d (.pl (q.atoms.map eAtom)), V.d (.pl (q.out.map cI))] := by simp [eQuery, hN]
  refine VC.of E s38 (by kernel_rfl) Tryz.func38 (by rfl) (by kernel_rfl) (by simp [Tryz.f38]) (by simp [Tryz.f38]) s38_ok fun B => ?_
  have hsq := mx_sq h15.2
  obtain ⟨S, hS⟩ : ∃ S, S = N * N := ⟨_, rfl⟩
  rw [← hS] at hsq
  have hS0 : 0 < S := by rw [hS]; exact Nat.mul_pos h15.1 h15.1
  have hwS : IntKind.i64.wrap ((N : Int) * (N : Int)) = (S : Int) := by
    rw [hS, wrap64_of (by rw [← Int.natCast_mul, ← hS]; omega) (by rw [← Int.natCast_mul, ← hS]; omega), Int.natCast_mul]
  have hLS : LenOk 1 S := ⟨by omega, by simp only [maxLen]; omega⟩
  have hrep := jn_rep q hS
  have hml : ∀ f, (mtx N f).length = S := fun f => by rw [mtx_len, hS]
  simp [Tryz.f38, hqe, hwS, hLS, hrep, -mtx_len, ]
  refine loop_rule (X := Nat) (fun i => i ≤ N) (fun i => [(1, .ptr 1 0 0), (3, .d (.int .i64 N)), (4, .own 13 0 S), (5, .d (.int .i64 i))]) (fun i => [(1, some (.box [.d (.int .i64 N), .d (.pl (q.atoms.map eAtom)), .d (.pl (q.out.map cI))])), (13, some (.row 4 1 ((mtx N (jnA q i)).map cB)))]) (fun i => N - i) 0 (by omega) (by simp) (by simp) ?_
  intro i hs t m hi hh
  by_cases hlt : i < N
  · have hwi := wr1 (i := i) (by omega)
    have hall := jnB_all hq hN hlt
    have hnl : ∀ x ∈ nbrL q i, 0 ≤ x ∧ x < N := fun x hx => by
      rw [nbrL, if_pos hq, List.mem_filter, rangeI_mem] at hx
      have := hx.1; rw [hN] at this; omega
    have hnk : (nbrL q i).length ≤ 5 := by
      rw [nbrL, if_pos hq]
      have := List.length_filter_le (nbrB q i) (rangeI q.n.toNat)
      rw [rangeI_len] at this; omega
    obtain ⟨l, hl⟩ : ∃ l, l = nbrL q i := ⟨_, rfl⟩
    rw [← hl] at hall hnl hnk
    refine anyQ fun Q => ?_
    simp [hlt, ]
    refine call_p (w_spec_Neighbors q i hst) (by simp [hqe]) fun hs1 hh1 hl1 => ?_
    simp at hh1
    rw [← hl]
    simp []
    refine loop_rule (X := Nat) (fun j => j ≤ l.length) (fun j => [(1, .ptr 1 0 0), (3, .d (.int .i64 N)), (4, .own 13 0 S), (5, .d (.int .i64 i)), (6, .d (.pl (l.map cI))), (7, .d (.int .i64 j))]) (fun j => [(1, some (.box [.d (.int .i64 N), .d (.pl (q.atoms.map eAtom)), .d (.pl (q.out.map cI))])), (13, some (.row 4 1 ((mtx N (jnB q i l j)).map cB)))]) (fun j => l.length - j) 0 (by omega) (by simp) (by simp [jnB_zero]) ?_
    intro j hs2 t2 m2 hj hh2
    by_cases hjl : j < l.length
    · have hwj := wr1 (i := j) (by omega)
      have hr := hnl _ (List.getElem_mem hjl)
      obtain ⟨b, hb⟩ : ∃ b : Nat, l[j] = (b : Int) := ⟨l[j].toNat, by omega⟩
      have hbN : b < N := by omega
      have hix := mx_ix h15.2 hlt hbN
      have hset := jnB_step (q := q) (i := i) (n := N) hjl hb hbN
      rw [← hS] at hix
      obtain ⟨R, hR⟩ : ∃ R, R = i * N := ⟨_, rfl⟩
      rw [← hR] at hix hset
      obtain ⟨K, hK⟩ : ∃ K, K = R + b := ⟨_, rfl⟩
      rw [← hK] at hix hset
      have hw1 : IntKind.i64.wrap ((i : Int) * (N : Int)) = (R : Int) := by
        rw [wrap64_of (by rw [← Int.natCast_mul, ← hR]; omega) (by rw [← Int.natCast_mul, ← hR]; omega), ← Int.natCast_mul, ← hR]
      have hw2 : IntKind.i64.wrap ((R : Int) + (b : Int)) = (K : Int) := by rw [wrap64_of (by omega) (by omega)]; omega
      have hKS := hix.1
      have hset2 : ((mtx N (jnB q i l j)).map cB).set K [D.bool true] = (mtx N (jnB q i l (j + 1))).map cB := by
        rw [← hset, List.map_set]; rfl
      simp [hjl, hb, hw1, hw2, hKS, hwj, hml, -mtx_len, -List.map_set, ]
      exact back (j + 1) (by omega) (by omega) rfl (by simp <;> omega) (by simp) (by simp [hset2, -mtx_len, -List.map_set])
    · have hn : j = l.length := by omega
      subst hn
      simp [hwi, ]
      exact back (i + 1) (by omega) (by omega) rfl (by simp <;> omega) (by simp) (by simp [hall])
  · have hn : i = N := by omega
    subst hn
    have hfin : mtx i (jnA q i) = mtx i (nbrB q) := jnA_all q [] i
    have hlen := hml (nbrB q)
    rw [hfin]
    simp []
    intro γ hs' h1 hg
    obtain ⟨q1, q2⟩ := gam_at hg (k := 13) (T := 4) (sz := 1) (es := (mtx i (nbrB q)).map cB) (by simp)
    clear hg
    have hne : γ 13 ≠ none := q2 fun h => by
      have h3 : ((mtx i (nbrB q)).map cB).length = S := by rw [List.length_map, hlen]
      rw [h] at h3; simp at h3; omega
    cases hg : γ 13 with
    | none => exact absurd hg hne
    | some g =>
      refine ⟨_, ?_, g, rfl, (q1 g hg).1⟩
      simp [List.take_of_length_le, hpLL_B]
      exact ⟨Nat.le_of_eq hS, hS, List.take_of_length_le (by simp [hS])⟩
end

end Go.Proofs.YtpbcmlolapdfjaaGreatDoor


namespace Go.Proofs.YtpbcmlolapdfjaaGreatDoor
open Go.Vs Go.Proofs Go
set_option maxRecDepth 100000
set_option maxHeartbeats 1000000

section
attribute [local simp] plI_id plStr_id map_plI map_plStr pS cP cI
theorem w_spec_DecompositionFromOrder (q : PQuery) (o : List Int) (hst : ∀ a ∈ q.atoms, a.rel.length ≤ maxLen) : VC Tryz.prog 17 [.agg ((eQuery q).map V.d), .d (pS cI o)]
   (fun _ r => r = .tup [.agg ((eDec (dcP q o)).map V.d), .d (.bool (ordOk q o))]) := by
  have hqe : (eQuery q).map V.d = [V.d (.int .i64 q.n), V.d (.pl (q.atoms.map eAtom)), V.d (.pl (q.out.map cI))] := by simp [eQuery]
  refine VC.ofL EP s17 (by kernel_rfl) Tryz.func17 (by rfl) (by kernel_rfl) (by simp [Tryz.f17]) (by simp [Tryz.f17]) s17_ok fun B hl => ?_
  clear hl
  simp [Tryz.f17, s17_31, hqe, s17_31, ]
  refine call_f (w_spec_IsValidOrder q o hst) (by simp [hqe]) rfl fun hs1 hh1 => ?_
  simp at hh1
  cases hok : ordOk q o
  · simp [dcP, hok, eDec, s17_31, ]
  have od := od_of hok
  have h5 := od.n5
  obtain ⟨N, hN⟩ : ∃ N : Nat, q.n = (N : Int) := ⟨q.n.toNat, by omega⟩
  have hol : o.length = N := by have := od.len; omega
  rw [hN] at h5
  have h15 : 1 ≤ N ∧ N ≤ 5 := by omega
  have hqe2 : (eQuery q).map V.d = [V.d (.int .i64 N), V.d (.pl (q.atoms.map eAtom)), V.d (.pl (q.out.map cI))] := by simp [eQuery, hN]
  have hsq := mx_sq h15.2
  obtain ⟨S, hS⟩ : ∃ S, S = N * N := ⟨_, rfl⟩
  rw [← hS] at hsq
  have hml : ∀ f, (mtx N f).length = S := fun f => by rw [mtx_len, hS]
  have hwN : IntKind.i64.wrap ((N : Int) - 1) = ((N - 1 : Nat) : Int) := by rw [wrap64_of (by omega) (by omega)]; omega
  simp [hN, s17_31, ]
  refine call_o (e_spec_l30Joined q N hN od.qok hst) (by simp [hqe2]) fun r2 n2 hs2 hn2 hm2 hp2 => ?_
  obtain ⟨g2, rfl, hg2⟩ := hp2
  refine ⟨4, 1, (mtx N (nbrB q)).map cB, by omega, .inr ⟨g2, rfl, hg2, by simp [ids_B]⟩, ?_⟩
  simp at hn2
  simp [s17_31, hml, -mtx_len]
  refine loop_ruleL (X := Nat) (fun i _ => i ≤ N) (fun i => [(1, .d (.pl (o.map cI))), (4, .ptr 4 0 0), (6, .d (.int .i64 N)), (7, .own 25 0 S), (8, .ptr 8 0 0), (9, .d (.int .i64 i))]) (fun i => [(4, some (.box [.d (.sl none none []), .d (.sl none none [])])), (8, some (.box [.own 901 0 i, .own 902 0 i])), (25, some (.row 4 1 ((mtx N (dcM q o i)).map cB))), (901, some (.row 23 1 (((List.range i).map (dcBag q o)).map (cP cI)))), (902, some (.row 3 1 (((List.range i).map (dcUp q o)).map cI)))]) (fun i => N - i) ?_ ?_
  · refine (lead_box 8 0 901 23 1 [.d (.sl none none []), .d (.sl none none [])] (by omega) (by omega) (by omega) (by simp) rfl).bind ?_
    rintro _ rfl
    refine (lead_box 8 1 902 3 1 [.own 901 0 0, .d (.sl none none [])] (by omega) (by omega) (by omega) (by simp) rfl).bind ?_
    rintro _ rfl
    exact Lead.of ⟨0, by omega, rfl, rfl, Nat.le_refl _, by simp, by simp [dcM0]⟩
  intro i hs t m hi hh
  by_cases hlt : i < N
  · have hwi := wr1 (i := i) (by omega)
    have hio : i < o.length := by omega
    obtain ⟨BS, hBS⟩ : ∃ BS, BS = (List.range i).map (dcBag q o) := ⟨_, rfl⟩
    obtain ⟨US, hUS⟩ : ∃ US, US = (List.range i).map (dcUp q o) := ⟨_, rfl⟩
    have hBl : BS.length = i := by rw [hBS]; simp
    have hUl : US.length = i := by rw [hUS]; simp
    have hB1 : (List.range (i + 1)).map (dcBag q o) = BS ++ [dcBag q o i] := by rw [hBS, List.range_succ, List.map_append]; rfl
    have hU1 : (List.range (i + 1)).map (dcUp q o) = US ++ [dcUp q o i] := by rw [hUS, List.range_succ, List.map_append]; rfl
    rw [← hBS, ← hUS]
    have hoi := od.rng _ (List.getElem_mem hio)
    obtain ⟨c, hc⟩ : ∃ c : Nat, o[i] = (c : Int) := ⟨o[i].toNat, by omega⟩
    have hcN : c < N := by omega
    have hgd : o.getD i 0 = (c : Int) := by rw [getD_el _ hio, hc]
    have hbd : dcBag q o i = (rangeI N).filter (dcI q o i) := by rw [dcBag, hN]; rfl
    have hbgl : (dcBag q o i).length ≤ N := by
      have := List.length_filter_le (dcI q o i) (rangeI N)
      rw [rangeI_len] at this; rw [hbd]; exact this
    have hbgm : ∀ x ∈ dcBag q o i, 0 ≤ x ∧ x < N := fun x hx => by
      rw [hbd, List.mem_filter, rangeI_mem] at hx; omega
    have hbgn : (dcBag q o i).Nodup := pw_nodup filter_pw
    have hfA := ffA_all (q := q) (o := o) (n := N) (i := i) hN
    have hup := dcUp_eq q o i
    obtain ⟨bag, hbag⟩ : ∃ bag, bag = dcBag q o i := ⟨_, rfl⟩
    obtain ⟨f, hf⟩ : ∃ f, f = dcM q o i := ⟨_, rfl⟩
    obtain ⟨U, hU⟩ : ∃ U, U = dcUp q o i := ⟨_, rfl⟩
    rw [← hbag] at hB1 hbd hbgl hbgm hbgn hfA hup
    rw [← hU] at hU1 hup
    rw [← hf] at hfA ⊢
    refine anyQ2 fun Q => ?_
    simp [hlt, s17_31, ]
    refine loop_rule (X := Nat) (fun k => k ≤ N) (fun k => [(1, .d (.pl (o.map cI))), (4, .ptr 4 0 0), (6, .d (.int .i64 N)), (7, .own 25 0 S), (8, .ptr 8 0 0), (9, .d (.int .i64 i)), (10, .own 32 0 ((rangeI k).filter (dcI q o i)).length), (11, .d (.int .i64 ((i + 1 : Nat) : Int))), (12, .d (.bool true)), (13, .d (.int .i64 k))]) (fun k => [(4, some (.box [.d (.sl none none []), .d (.sl none none [])])), (8, some (.box [.own 901 0 i, .own 902 0 i])), (25, some (.row 4 1 ((mtx N (f)).map cB))), (901, some (.row 23 1 (BS.map (cP cI)))), (902, some (.row 3 1 (US.map cI))), (32, some (.row 3 1 (((rangeI k).filter (dcI q o i)).map cI)))]) (fun k => N - k) 0 (by omega) (by simp [rangeI_zero, hwi]) (by simp [rangeI_zero]) ?_
    intro k hs3 t3 m3 hk hh3
    by_cases hkN : k < N
    · have hwk := wr1 (i := k) (by omega)
      have hix := mx_ix h15.2 hcN hkN
      rw [← hS] at hix
      have hLk : (mtx N f).length = S := hml f
      obtain ⟨R, hR⟩ : ∃ R, R = c * N := ⟨_, rfl⟩
      rw [← hR] at hix
      obtain ⟨K, hK⟩ : ∃ K, K = R + k := ⟨_, rfl⟩
      rw [← hK] at hix
      have hw1 : IntKind.i64.wrap ((c : Int) * (N : Int)) = (R : Int) := by
        rw [wrap64_of (by rw [← Int.natCast_mul, ← hR]; omega) (by rw [← Int.natCast_mul, ← hR]; omega), ← Int.natCast_mul, ← hR]
      have hw2 : IntKind.i64.wrap ((R : Int) + (k : Int)) = (K : Int) := by rw [wrap64_of (by omega) (by omega)]; omega
      have hKS := hix.1
      have hget : (mtx N f)[K]'(by omega) = f c k := by
        subst hK; subst hR; exact mtx_get hkN _
      obtain ⟨L, hL⟩ : ∃ L, L = mtx N f := ⟨_, rfl⟩
      simp only [← hL] at hget hLk ⊢
      have hst2 : (rangeI (k + 1)).filter (dcI q o i) = (rangeI k).filter (dcI q o i) ++ if dcI q o i k then [(k : Int)] else [] := by
        rw [rangeI_succ, List.filter_append]; cases e : dcI q o i k <;> simp [e]
      have hfl := List.length_filter_le (dcI q o i) (rangeI k)
      rw [rangeI_len] at hfl
      have hLL : LenOk 8 (((rangeI k).filter (dcI q o i)).length + 1) := ⟨by omega, by simp only [maxLen]; omega⟩
      have hdI : dcI q o i k = (decide ((k : Int) = c) || (f c k && !(o.take i).contains (k : Int))) := by rw [dcI, hgd, hf]
      obtain ⟨W, hW⟩ : ∃ W, W = (rangeI k).filter (dcI q o i) := ⟨_, rfl⟩
      rw [← hW] at hst2 hLL ⊢
      by_cases hkc : k = c
      · have e : dcI q o i k = true := by rw [hdI, decide_eq_true (by omega)]; rfl
        rw [e, if_pos rfl] at hst2
        simp [hkN, hio, hc, eq_true hkc, hwk, hLL, s17_31, ]
        exact back (k + 1) (by omega) (by omega) rfl (by simp <;> omega) (by simp [hst2, hwi]) (by simp [hst2])
      have hkc2 : ¬ (k : Int) = c := by omega
      cases hfv : f c k
      · have e : dcI q o i k = false := by rw [hdI, hfv, decide_eq_false hkc2]; rfl
        rw [e, if_neg (by simp), List.append_nil] at hst2
        rw [hfv] at hget
        simp [hkN, hio, hc, eq_false hkc, hw1, hw2, hKS, hLk, hget, hwk, cB, s17_31, ]
        exact back (k + 1) (by omega) (by omega) rfl (by simp <;> omega) (by simp [hst2, hwi]) (by simp [hst2])
      have e2 : dcI q o i k = !(o.take i).contains (k : Int) := by rw [hdI, hfv, decide_eq_false hkc2]; simp
      rw [hfv] at hget
      simp [hkN, hio, hc, eq_false hkc, hw1, hw2, hKS, hLk, hget, show i ≤ o.length by omega, ← List.map_take, cB, s17_31, ]
      refine call_f (w_spec_l7Find (o.take i) k) (by simp) rfl fun hs4 hh4 => ?_
      simp at hh4
      have hge := idxL_ge (o.take i) k
      cases hct : (o.take i).contains (k : Int)
      · have hi0 : idxL (o.take i) k < 0 := by rw [hct, decide_eq_false_iff_not] at hge; omega
        have e3 : dcI q o i k = true := by rw [e2, hct]; rfl
        rw [e3, if_pos rfl] at hst2
        simp [hi0, hwk, hLL, s17_31, ]
        exact back (k + 1) (by omega) (by omega) rfl (by simp <;> omega) (by simp [hst2, hwi]) (by simp [hst2])
      · have hi0 : ¬ idxL (o.take i) k < 0 := by rw [hct, decide_eq_true_eq] at hge; omega
        have e3 : dcI q o i k = false := by rw [e2, hct]; rfl
        rw [e3, if_neg (by simp), List.append_nil] at hst2
        simp [hi0, hwk, s17_31, ]
        exact back (k + 1) (by omega) (by omega) rfl (by simp <;> omega) (by simp [hst2, hwi]) (by simp [hst2])
    have hkn : k = N := by omega
    subst hkn
    rw [← hbd]
    simp [s17_31, ]
    refine loop_ruleL (X := Nat × Bool × Nat) (fun p _ => UpI o bag i p) (fun p => [(1, .d (.pl (o.map cI))), (4, .ptr 4 0 0), (6, .d (.int .i64 k)), (7, .own 25 0 S), (8, .ptr 8 0 0), (9, .d (.int .i64 i)), (10, .d (.pl (bag.map cI))), (11, .d (.int .i64 p.1)), (12, .d (.bool p.2.1)), (14, .d (.int .i64 p.2.2))]) (fun p => [(4, some (.box [.d (.sl none none []), .d (.sl none none [])])), (8, some (.box [.own 901 0 i, .own 902 0 i])), (25, some (.row 4 1 ((mtx k (f)).map cB))), (901, some (.row 23 1 (BS.map (cP cI)))), (902, some (.row 3 1 (US.map cI)))]) (fun p => k + 1 - p.2.2) ?_ ?_
    · refine (lead_frp 32 (T := 3) (sz := 1) (es := bag.map cI) (by simp)).bind ?_
      rintro _ rfl
      exact Lead.of ⟨(i + 1, true, i + 1), .zero hio, rfl, rfl, Nat.le_refl _, by simp [hwi, List.take_of_length_le], by simp⟩
    rintro ⟨u, s, k2⟩ hs5 t5 m5 hI hh5
    have hle := hI.le
    simp only at hle
    by_cases hgo : k2 < k ∧ s = true
    · obtain ⟨hk2, rfl⟩ := hgo
      have hk2o : k2 < o.length := by omega
      have hwk2 := wr1 (i := k2) (by omega)
      simp [hk2, hk2o, s17_31, ]
      refine call_f (w_spec_l7Find bag o[k2]) (by simp) rfl fun hs6 hh6 => ?_
      simp at hh6
      have hge := idxL_ge bag o[k2]
      cases hct : bag.contains o[k2]
      · have hi0 : ¬ 0 ≤ idxL bag o[k2] := by rw [hct, decide_eq_false_iff_not] at hge; exact hge
        simp [hi0, hwk2, s17_31, ]
        exact back2 (u, true, k2 + 1) (hI.miss hk2o hct) (by simp only; omega) rfl (by simp <;> omega) (by simp) (by simp)
      · have hi0 : 0 ≤ idxL bag o[k2] := by rw [hct, decide_eq_true_eq] at hge; exact hge
        simp [hi0, hwk2, s17_31, ]
        exact back2 (k2, false, k2 + 1) (hI.hit hk2o hct) (by simp only; omega) rfl (by simp <;> omega) (by simp) (by simp)
    have hdone : u = upV o bag i := hI.done fun h => hgo ⟨by omega, h.2⟩
    rw [← hdone] at hup
    have hcase : ((i = k - 1) = True ∧ U = -1) ∨ ((i = k - 1) = False ∧ U = (u : Int)) := by
      by_cases e : i + 1 = o.length
      · rw [if_pos e] at hup; exact .inl ⟨eq_true (by omega), hup⟩
      · rw [if_neg e] at hup; exact .inr ⟨eq_false (by omega), hup⟩
    have hcond : ((k2 < k) = True ∧ s = false) ∨ ((k2 < k) = False) := by
      by_cases e : k2 < k
      · exact .inl ⟨eq_true e, by cases s; rfl; exact absurd ⟨e, rfl⟩ hgo⟩
      · exact .inr (eq_false e)
    have hB2 : (List.range (i + 1)).map (cP cI ∘ dcBag q o) = BS.map (cP cI) ++ [[D.pl (bag.map cI)]] := by rw [← List.map_map, hB1, List.map_append]; simp
    have hU2 : (List.range (i + 1)).map (cI ∘ dcUp q o) = US.map cI ++ [[D.int IntKind.i64 U]] := by rw [← List.map_map, hU1, List.map_append]; simp
    have hLB : LenOk 24 (i + 1) := ⟨by omega, by simp only [maxLen]; omega⟩
    have hLU : LenOk 8 (i + 1) := ⟨by omega, by simp only [maxLen]; omega⟩
    have hf0 := ffA_zero bag f k
    rcases hcond with ⟨hc1, rfl⟩ | hc1
    all_goals rcases hcase with ⟨hc2, hup2⟩ | ⟨hc2, hup2⟩
    all_goals
      simp [hc1, hc2, hwN, s17_31, ]
      refine loop_rule (X := Nat) (fun a => a ≤ bag.length) (fun a => [(1, .d (.pl (o.map cI))), (4, .ptr 4 0 0), (6, .d (.int .i64 k)), (7, .own 25 0 S), (8, .ptr 8 0 0), (9, .d (.int .i64 i)), (10, .d (.pl (bag.map cI))), (11, .d (.int .i64 U)), (15, .d (.int .i64 a))]) (fun a => [(4, some (.box [.d (.sl none none []), .d (.sl none none [])])), (8, some (.box [.own 901 0 i, .own 902 0 i])), (25, some (.row 4 1 ((mtx k (ffA bag f a)).map cB))), (901, some (.row 23 1 (BS.map (cP cI)))), (902, some (.row 3 1 (US.map cI)))]) (fun a => bag.length - a) 0 (by omega) (by simp [hup2]) (by simp [hf0]) ?_
      intro a hs7 t7 m7 ha hh7
      by_cases hal : a < bag.length
      · have hwa := wr1 (i := a) (by omega)
        have hba := hbgm _ (List.getElem_mem hal)
        obtain ⟨x, hx⟩ : ∃ x : Nat, bag[a] = (x : Int) := ⟨bag[a].toNat, by omega⟩
        have hxN : x < k := by omega
        have hB0 := ffB_zero bag f k a
        have hBa := ffB_all f k hal
        refine anyQ fun Q => ?_
        simp [hal, s17_31, ]
        refine loop_rule (X := Nat) (fun b => b ≤ bag.length) (fun b => [(1, .d (.pl (o.map cI))), (4, .ptr 4 0 0), (6, .d (.int .i64 k)), (7, .own 25 0 S), (8, .ptr 8 0 0), (9, .d (.int .i64 i)), (10, .d (.pl (bag.map cI))), (11, .d (.int .i64 U)), (15, .d (.int .i64 a)), (16, .d (.int .i64 b))]) (fun b => [(4, some (.box [.d (.sl none none []), .d (.sl none none [])])), (8, some (.box [.own 901 0 i, .own 902 0 i])), (25, some (.row 4 1 ((mtx k (ffB bag f a b)).map cB))), (901, some (.row 23 1 (BS.map (cP cI)))), (902, some (.row 3 1 (US.map cI)))]) (fun b => bag.length - b) 0 (by omega) (by simp) (by simp [hB0]) ?_
        intro b hs8 t8 m8 hb hh8
        by_cases hbl : b < bag.length
        · have hwb := wr1 (i := b) (by omega)
          have hbb := hbgm _ (List.getElem_mem hbl)
          obtain ⟨y, hy⟩ : ∃ y : Nat, bag[b] = (y : Int) := ⟨bag[b].toNat, by omega⟩
          have hyN : y < k := by omega
          have hix := mx_ix h15.2 hxN hyN
          rw [← hS] at hix
          obtain ⟨R, hR⟩ : ∃ R, R = x * k := ⟨_, rfl⟩
          rw [← hR] at hix
          obtain ⟨K, hK⟩ : ∃ K, K = R + y := ⟨_, rfl⟩
          rw [← hK] at hix
          have hw1 : IntKind.i64.wrap ((x : Int) * (k : Int)) = (R : Int) := by
            rw [wrap64_of (by rw [← Int.natCast_mul, ← hR]; omega) (by rw [← Int.natCast_mul, ← hR]; omega), ← Int.natCast_mul, ← hR]
          have hw2 : IntKind.i64.wrap ((R : Int) + (y : Int)) = (K : Int) := by rw [wrap64_of (by omega) (by omega)]; omega
          have hKS := hix.1
          have hLk : (mtx k (ffB bag f a b)).length = S := hml _
          have hget : (mtx k (ffB bag f a b))[K]'(by omega) = ffB bag f a b x y := by
            subst hK; subst hR; exact mtx_get hyN _
          have hstep := ffB_step hbgn f (n := k) hal hbl hx hy hyN rfl
          rw [← hR, ← hK] at hstep
          obtain ⟨L, hL⟩ : ∃ L, L = mtx k (ffB bag f a b) := ⟨_, rfl⟩
          obtain ⟨L', hL'⟩ : ∃ L', L' = mtx k (ffB bag f a (b + 1)) := ⟨_, rfl⟩
          obtain ⟨v, hv⟩ : ∃ v, v = ffB bag f a b x y := ⟨_, rfl⟩
          rw [← hv] at hget hstep
          rw [← hL, ← hL'] at hstep
          simp only [← hL] at hget hLk ⊢
          have hset : ∀ z, z = (v || !(decide (a = b))) → (L.map cB).set K [D.bool z] = L'.map cB := fun z hz => by rw [← hstep, List.map_set, hz]; rfl
          cases v with
          | true =>
            have hset2 := hset true rfl
            simp [hal, hbl, hx, hy, hw1, hw2, hKS, hLk, hget, hwb, cB, -List.map_set, s17_31, ]
            exact back (b + 1) (by omega) (by omega) rfl (by simp <;> omega) (by simp) (by simp [← hL', hset2, -List.map_set])
          | false =>
            by_cases hab : a = b
            · have hset2 := hset false (by simp [hab])
              simp [hal, hbl, hx, hy, hw1, hw2, hKS, hLk, hget, hwb, eq_true hab, cB, -List.map_set, s17_31, ]
              exact back (b + 1) (by omega) (by omega) rfl (by simp <;> omega) (by simp) (by simp [← hL', hset2, -List.map_set])
            · have hset2 := hset true (by simp [hab])
              simp [hal, hbl, hx, hy, hw1, hw2, hKS, hLk, hget, hwb, eq_false hab, cB, -List.map_set, s17_31, ]
              exact back (b + 1) (by omega) (by omega) rfl (by simp <;> omega) (by simp) (by simp [← hL', hset2, -List.map_set])
        · have hbn : b = bag.length := by omega
          subst hbn
          simp [hwa, s17_31, ]
          exact back (a + 1) (by omega) (by omega) rfl (by simp <;> omega) (by simp) (by simp [hBa])
      · have han : a = bag.length := by omega
        subst han
        simp [hwi, hBl, hUl, hLB, hLU, List.take_of_length_le, s17_31, ]
        exact back2 (i + 1) (by omega) (by omega) rfl (by simp <;> omega) (by simp) (by simp [hB2, hU2, hfA])
  · have hn : i = N := by omega
    subst hn
    simp [dcP, hok, hol, eDec, List.take_of_length_le, s17_31, ]
end

end Go.Proofs.YtpbcmlolapdfjaaGreatDoor


namespace Go.Proofs.YtpbcmlolapdfjaaGreatDoor
open Go.Vs Go.Proofs Go
set_option maxRecDepth 100000
set_option maxHeartbeats 1000000

section
attribute [local simp] plI_id plStr_id map_plI map_plStr pS cP cI
theorem e_impl_DecompositionFromOrder (q : PQuery) (o : List Int) : VC Tryz.prog 23 [.agg ((eQuery q).map V.d), .d (pS cI o)]
   (fun n r => ∃ y : Dec, r = .tup [.agg ((cDec y).map V.d), .d (.bool (ordOk q o))] ∧ plDec y = dcP q o ∧ okDec y ∧ Good (cDec y) (whDec y) n) := by
  have hqe : (eQuery q).map V.d = [V.d (.int .i64 q.n), V.d (.pl (q.atoms.map eAtom)), V.d (.pl (q.out.map cI))] := by simp [eQuery]
  refine VC.of E s23 (by kernel_rfl) Tryz.func23 (by rfl) (by kernel_rfl) (by simp [Tryz.f23]) (by simp [Tryz.f23]) s23_ok fun B => ?_
  simp [Tryz.f23, s23_14, s23_15, hqe, s23_14, s23_15, ]
  refine call_f (w_impl_IsValidOrder q o) (by simp [hqe]) rfl fun hs1 hh1 => ?_
  simp at hh1
  cases hok : ordOk q o
  · simp [s23_14, s23_15, ]
    exact ⟨⟨nilS, nilS⟩, by simp [cDec, nilS, cS, dSl], by simp [dcP, hok, plDec, nilS, plS], ⟨ok_nilS, ok_nilS⟩, good_Dec0 B⟩
  have od := od_of hok
  have h5 := od.n5
  have hN : q.n = (o.length : Int) := od.len.symm
  rw [hN] at h5
  have h15 : 1 ≤ o.length ∧ o.length ≤ 5 := by omega
  have hqe2 : (eQuery q).map V.d = [V.d (.int .i64 o.length), V.d (.pl (q.atoms.map eAtom)), V.d (.pl (q.out.map cI))] := by simp [eQuery, hN]
  have hwN : IntKind.i64.wrap ((o.length : Int) - 1) = ((o.length - 1 : Nat) : Int) := by rw [wrap64_of (by omega) (by omega)]; omega
  have hL0 : LenOk 24 o.length := ⟨by omega, by simp only [maxLen]; omega⟩
  have hz0 : erLL (List.replicate o.length [D.sl none none []]) = (nbI q o.length 0).map (cP cI) := by
    rw [nbI_zero]
    have : ∀ k, erLL (List.replicate k [D.sl none none []]) = (List.replicate k ([] : List Int)).map (cP cI) := by
      intro k
      induction k with
      | zero => rfl
      | succ k ih => rw [List.replicate_succ, List.replicate_succ, List.map_cons, ← ih]; rfl
    exact this _
  simp [hN, hL0, s23_14, s23_15, ]
  refine loop_ruleL (X := Nat) (fun i _ => i ≤ o.length) (fun i => [(1, .d (.pl (o.map cI))), (2, .ptr 2 0 0), (4, .ptr 4 0 0), (6, .d (.int .i64 o.length)), (7, .own 25 0 o.length), (27, .d (.int .i64 o.length)), (28, .d (.int .i64 i))]) (fun i => [(2, some (.box [.d (.int .i64 o.length), .d (.pl (q.atoms.map eAtom)), .d (.pl (q.out.map cI))])), (4, some (.box [.d (.sl none none []), .d (.sl none none [])])), (25, some (.row 23 1 ((nbI q o.length i).map (cP cI))))]) (fun i => o.length - i) ?_ ?_
  · refine (lead_rowE 25 (T := 23) (sz := 1) (es := List.replicate o.length [D.sl none none []]) (by simp)).bind ?_
    rintro _ rfl
    exact Lead.of ⟨0, by omega, rfl, rfl, Nat.le_refl _, by simp, by simp [hz0]⟩
  intro i hs t m hi hh
  by_cases hlt : i < o.length
  · have hwi := wr1 (i := i) (by omega)
    have hset : ((nbI q o.length i).map (cP cI)).set i [D.pl ((nbrL q i).map cI)] = (nbI q o.length (i + 1)).map (cP cI) := by rw [← nbI_set q hlt, List.map_set]; simp
    simp [hlt, s23_14, s23_15, ]
    refine call_p (p_impl_Neighbors q i) (by simp [hqe2]) fun hs2 hh2 hl2 => ?_
    simp at hh2
    simp [hlt, hwi, -List.map_set, s23_14, s23_15, ]
    exact back2 (i + 1) (by omega) (by omega) rfl (by simp <;> omega) (by simp) (by simp [hset, -List.map_set])
  have hin : i = o.length := by omega
  subst hin
  rw [nbI_all od.qok o]
  simp [s23_14, s23_15, ]
  clear hi hlt
  refine loop_ruleL (X := Nat × List Ints) (fun p h => CopI (cS cI) (whS whI) (okS okI) (plS plI) ((List.range o.length).map (dcBag q o)) B p h) (fun p => [(1, .d (.pl (o.map cI))), (4, .ptr 4 0 0), (6, .d (.int .i64 o.length)), (7, .own 25 0 o.length), (9, .ptr 9 0 0), (38, .d (.pl (o.map cI))), (39, .d (.int .i64 o.length)), (40, .d (.int .i64 p.1))]) (fun p => [(4, some (.box [.d (.sl none none []), .d (.sl none none [])])), (9, some (.box [.own 901 0 (p.1), .own 902 0 p.1])), (25, some (.row 23 1 ((nrI q o o.length p.1).map (cP cI)))), (901, some (.row 23 1 ((p.2).map (cS cI)))), (902, some (.row 3 1 (((List.range p.1).map (dcUp q o)).map cI)))]) (fun p => o.length - p.1) ?_ ?_
  · refine (lead_box 9 0 901 23 1 [.d (.sl none none []), .d (.sl none none [])] (by omega) (by omega) (by omega) (by simp) rfl).bind ?_
    rintro _ rfl
    refine (lead_box 9 1 902 3 1 [.own 901 0 0, .d (.sl none none [])] (by omega) (by omega) (by omega) (by simp) rfl).bind ?_
    rintro _ rfl
    exact Lead.of ⟨(0, []), .zero, rfl, rfl, Nat.le_refl _, by simp, by simp⟩
  rintro ⟨i, ys⟩ hs3 t3 m3 hI hh3
  have hle := hI.le
  have hyl := hI.len
  simp only [List.length_map, List.length_range] at hle
  simp only
  by_cases hlt : i < o.length
  · have hwi := wr1 (i := i) (by omega)
    obtain ⟨US, hUS⟩ : ∃ US, US = (List.range i).map (dcUp q o) := ⟨_, rfl⟩
    have hUl : US.length = i := by rw [hUS]; simp
    have hU1 : (List.range (i + 1)).map (dcUp q o) = US ++ [dcUp q o i] := by rw [hUS, List.range_succ, List.map_append]; rfl
    have hU2 : (List.range (i + 1)).map (cI ∘ dcUp q o) = US.map cI ++ [[D.int IntKind.i64 (dcUp q o i)]] := by rw [← List.map_map, hU1, List.map_append]; simp
    rw [← hUS]
    have hoi := od.rng _ (List.getElem_mem hlt)
    rw [hN] at hoi
    obtain ⟨c, hc⟩ : ∃ c : Nat, o[i] = (c : Int) := ⟨o[i].toNat, by omega⟩
    have hcN : c < o.length := by omega
    have hlat := df_lat (q := q) (o := o) hlt
    have hbg := df_bag od hlt
    have hAl : ∀ z, (dcNear q o i z).length ≤ o.length := fun z => by
      have := List.length_filter_le (dcM q o i z) (rangeI q.n.toNat)
      rw [rangeI_len] at this
      simp only [dcNear]; omega
    have hll : (dcLat q o i).length ≤ o.length := by
      have := List.length_filter_le (fun v => dcM q o i (o.getD i 0) v && (o.drop (i + 1)).contains v) (rangeI q.n.toNat)
      rw [rangeI_len] at this
      simp only [dcLat]; omega
    have hlm : ∀ x ∈ dcLat q o i, 0 ≤ x ∧ x < o.length := fun x hx => by
      have := (lat_mem od hlt x).1 hx; omega
    have hnear : ∀ x ∈ dcLat q o i, ((uniL (dcNear q o i x) (dcLat q o i)).filter fun y => !(decide (y = x))) = dcNear q o (i + 1) x := fun x hx => df_near od hlt hx
    have hget : ∀ (h : c < (nrI q o o.length i).length), (nrI q o o.length i)[c] = dcNear q o i (c : Nat) := fun h => nrI_get h
    have hgJ : ∀ {j x : Nat}, (hj : j < (dcLat q o i).length) → (dcLat q o i)[j] = (x : Int) → (h : x < (nrJ q o o.length i j).length) → (nrJ q o o.length i j)[x] = dcNear q o i (x : Nat) := fun hj hx h => nrJ_get hj hx h
    have hsJ : ∀ {j x : Nat}, (hj : j < (dcLat q o i).length) → (dcLat q o i)[j] = (x : Int) → (nrJ q o o.length i j).set x (dcNear q o (i + 1) (x : Nat)) = nrJ q o o.length i (j + 1) := fun hj hx => nrJ_set hj hx
    have hJ0 := nrJ_zero q o o.length i
    have hJa := nrJ_all od hN hlt
    have htop := upR_top (o := o) (l := dcLat q o i) hlt
    have hend := upR_end od hlt
    rw [hc] at hlat hbg
    obtain ⟨l, hl⟩ : ∃ l, l = dcLat q o i := ⟨_, rfl⟩
    obtain ⟨A, hA⟩ : ∃ A, A = dcNear q o i (c : Nat) := ⟨_, rfl⟩
    have hAlc := hAl c
    simp only [← hl, ← hA] at hlat hbg hll hlm hnear hget hgJ hsJ hJa htop hend hAlc
    have hD : o.drop (i + 1) = o.drop (i + 1) := rfl
    have hLB : LenOk 24 (i + 1) := ⟨by omega, by simp only [maxLen]; omega⟩
    have hLU : LenOk 8 (i + 1) := ⟨by omega, by simp only [maxLen]; omega⟩
    have hL1 : LenOk 8 1 := ⟨by omega, by simp only [maxLen]; omega⟩
    have hbg' : (dcBag q o i) = ((List.range o.length).map (dcBag q o))[i]'(by simpa using hlt) := by simp
    refine anyQ2 fun Q => ?_
    simp [hlt, hc, hcN, hget, hwi, show i + 1 ≤ o.length by omega, ← List.map_drop, s23_14, s23_15, ]
    repeat' apply And.intro
    all_goals first | omega | skip
    all_goals
      refine call_p (p_impl_common A (o.drop (i + 1)) (by omega)) (by simp [← List.map_drop, List.take_of_length_le]) fun hs4 hh4 hl4 => ?_
      simp at hh4
      rw [hlat]
      simp [hL1, s23_14, s23_15, ]
      repeat' apply And.intro
      all_goals
        refine call_own (by simp) (fun γ n hn hg => ⟨[.d (.sl (γ 57) (some (3, 1)) [[D.int .i64 c]]), .d (.pl (l.map cI))], by simp [List.take_of_length_le], (e_impl_unite [(c : Int)] l (by simp only [List.length_singleton]; omega)).er (by simp [pS, cI, erLL, erL, D.er])⟩) (fun n r h => by
          obtain ⟨y, rfl, _, _, G⟩ := h
          exact ⟨fun g hg => G.lo g (by simpa [V.ids, idsL_cS] using hg), by simp [V.hp, dSl, D.hp]⟩) fun n5 hs5 r5 hn5 hm5 hp5 hr5 => ?_
        obtain ⟨y, rfl, py, oy, Gy⟩ := hp5
        simp at hn5
        have hry : ∀ g ∈ idsL (cS cI y), g < hs5 := fun g hg => hr5 g (by rw [idsL_cS] at hg; simpa [V.ids] using hg)
        simp [cS, dSl, hyl, hLB, s23_14, s23_15, ]
        refine loop_rule (X := Nat) (fun j => j ≤ l.length) (fun j => [(1, .d (.pl (o.map cI))), (4, .ptr 4 0 0), (6, .d (.int .i64 o.length)), (7, .own 25 0 o.length), (9, .ptr 9 0 0), (38, .d (.pl (o.map cI))), (39, .d (.int .i64 o.length)), (40, .d (.int .i64 i)), (10, .d (.int .i64 i)), (12, .d (.pl (l.map cI))), (63, .d (.pl (l.map cI))), (64, .d (.int .i64 l.length)), (65, .d (.int .i64 j))]) (fun j => [(4, some (.box [.d (.sl none none []), .d (.sl none none [])])), (9, some (.box [.own 901 0 (i + 1), .own 902 0 i])), (25, some (.row 23 1 ((nrJ q o o.length i j).map (cP cI)))), (901, some (.row 23 1 ((ys ++ [y]).map (cS cI)))), (902, some (.row 3 1 (US.map cI)))]) (fun j => l.length - j) 0 (by omega) (by simp) (by simp [hJ0, cS, dSl, hyl]) ?_
        intro j hs6 t6 m6 hj hh6
        by_cases hjl : j < l.length
        · have hwj := wr1 (i := j) (by omega)
          have hx0 := hlm _ (List.getElem_mem hjl)
          obtain ⟨x, hx⟩ : ∃ x : Nat, l[j] = (x : Int) := ⟨l[j].toNat, by omega⟩
          have hxN : x < o.length := by omega
          have hg := hgJ hjl hx
          have hs := hsJ hjl hx
          have hnr := hnear _ (List.getElem_mem hjl)
          rw [hx] at hnr
          have hAx := hAl x
          obtain ⟨E, hE⟩ : ∃ E, E = dcNear q o i (x : Nat) := ⟨_, rfl⟩
          obtain ⟨E', hE'⟩ : ∃ E', E' = dcNear q o (i + 1) (x : Nat) := ⟨_, rfl⟩
          obtain ⟨J, hJ⟩ : ∃ J, J = nrJ q o o.length i j := ⟨_, rfl⟩
          obtain ⟨J', hJ'⟩ : ∃ J', J' = nrJ q o o.length i (j + 1) := ⟨_, rfl⟩
          have hJl : J.length = o.length := by rw [hJ]; simp
          simp only [← hE, ← hE', ← hJ, ← hJ'] at hg hs hnr hAx ⊢
          have hset : (J.map (cP cI)).set x [D.pl (E'.map cI)] = J'.map (cP cI) := by rw [← hs, List.map_set]; simp
          have hul := uniL_len E l
          simp [hjl, hx, hxN, hJl, hg, s23_14, s23_15, ]
          refine call_p (p_impl_unite E l (by omega)) (by simp) fun hs7 hh7 hl7 => ?_
          simp at hh7
          simp [s23_14, s23_15, ]
          refine call_p (p_impl_without (uniL E l) x (by omega)) (by simp) fun hs8 hh8 hl8 => ?_
          simp at hh8
          rw [hnr]
          simp [hxN, hJl, hwj, -List.map_set, s23_14, s23_15, ]
          exact back (j + 1) (by omega) (by omega) rfl (by simp <;> omega) (by simp) (by simp [← hJ', hset, -List.map_set])
        have hjn : j = l.length := by omega
        subst hjn
        rw [hJa]
        clear hjl hj
        have hcase : ((i < o.length - 1) = True ∧ upR o l i (o.length - 1) = ((i + 1 : Nat) : Int)) ∨ ((i < o.length - 1) = False ∧ upR o l i (o.length - 1) = -1) := by
          by_cases e : i + 1 = o.length
          · rw [if_pos e] at htop; exact .inr ⟨eq_false (by omega), htop⟩
          · rw [if_neg e] at htop; exact .inl ⟨eq_true (by omega), htop⟩
        rcases hcase with ⟨hc2, hup2⟩ | ⟨hc2, hup2⟩
        all_goals
          simp [hwN, hc2, hwi, s23_14, s23_15, ]
          refine loop_rule (X := Nat) (fun k => i ≤ k ∧ k < o.length) (fun k => [(1, .d (.pl (o.map cI))), (4, .ptr 4 0 0), (6, .d (.int .i64 o.length)), (7, .own 25 0 o.length), (9, .ptr 9 0 0), (38, .d (.pl (o.map cI))), (39, .d (.int .i64 o.length)), (40, .d (.int .i64 i)), (10, .d (.int .i64 i)), (12, .d (.pl (l.map cI))), (15, .d (.int .i64 (upR o l i k))), (16, .d (.int .i64 k))]) (fun k => [(4, some (.box [.d (.sl none none []), .d (.sl none none [])])), (9, some (.box [.own 901 0 (i + 1), .own 902 0 i])), (25, some (.row 23 1 ((nrI q o o.length (i + 1)).map (cP cI)))), (901, some (.row 23 1 ((ys ++ [y]).map (cS cI)))), (902, some (.row 3 1 (US.map cI)))]) (fun k => k) (o.length - 1) (by omega) (by simp [hup2]) (by simp) ?_
          intro k hs9 t9 m9 hk hh9
          by_cases hki : i < k
          · have hst := upR_step (o := o) (l := l) (i := i) hk.2 (by omega)
            have hwk : IntKind.i64.wrap ((k : Int) - 1) = ((k - 1 : Nat) : Int) := by rw [wrap64_of (by omega) (by omega)]; omega
            have hk2 := hk.2
            refine anyQ fun Q => ?_
            simp [hki, hk2, s23_14, s23_15, ]
            refine call_f (w_impl_hasInt l o[k]) (by simp) rfl fun hs10 hh10 => ?_
            simp at hh10
            cases hct : l.contains o[k]
            · rw [hct, if_neg (by simp)] at hst
              simp [hwk, s23_14, s23_15, ]
              exact back (k - 1) (by omega) (by omega) rfl (by simp <;> omega) (by simp [hst]) (by simp)
            · rw [hct, if_pos rfl] at hst
              simp [hwk, s23_14, s23_15, ]
              exact back (k - 1) (by omega) (by omega) rfl (by simp <;> omega) (by simp [hst]) (by simp)
          have hkn : k = i := by omega
          subst hkn
          rw [hend]
          simp [hwi, hUl, hLU, List.take_of_length_le, s23_14, s23_15, ]
          exact back2 (k + 1, ys ++ [y]) (hI.snoc (by simpa using hlt) (by rw [← hbg', ← hbg]; simpa [plS] using py) oy ⟨by omega, by omega⟩ (by simp <;> omega) Gy (fun g hg => by have := hry g hg; simp; omega)) (by simp only; omega) rfl (by simp <;> omega) (by simp) (by simp [hU2, cS, dSl])
  · have hin : i = o.length := by omega
    subst hin
    have hall := hI.all (by simp)
    simp [s23_14, s23_15, ]
    intro γ hs' h2 hg
    obtain ⟨US, hUS⟩ : ∃ US, US = (List.range o.length).map (dcUp q o) := ⟨_, rfl⟩
    have hUl : US.length = o.length := by rw [hUS]; simp
    obtain ⟨q1, q2⟩ := gam_at hg (k := 901) (T := 23) (sz := 1) (es := ys.map (cS cI)) (by simp)
    obtain ⟨q3, q4⟩ := gam_at hg (k := 902) (T := 3) (sz := 1) (es := US.map cI) (by simp [hUS])
    have r1 := gam_row hg (k := 901) (T := 23) (sz := 1) (es := ys.map (cS cI)) (by simp)
    have r2 := gam_row2 hg (k := 902) (T := 3) (sz := 1) (es := US.map cI) (k2 := 901) (T2 := 23) (sz2 := 1) (es2 := ys.map (cS cI)) (by simp [hUS]) (by simp)
    have r3 : ∀ g, γ 901 = some g → γ 902 = some g → False := fun g h h' => by
      have := hg.ne 901 902 (.row 23 1 (ys.map (cS cI))) (.row 3 1 (US.map cI)) g (by simp) (by simp [hUS]) h h'
      omega
    clear hg
    have hp : hpLL (ys.map (cS cI)) = false := hpLL_mapS ys
    have hp2 : hpLL (US.map cI) = false := hpLL_mapI US
    have hcm : (List.range o.length).map (cI ∘ dcUp q o) = US.map cI := by rw [hUS, List.map_map]
    have ht1 : (ys.map (cS cI)).take o.length = ys.map (cS cI) := List.take_of_length_le (by simp [hyl])
    have ht2 : (US.map cI).take o.length = US.map cI := List.take_of_length_le (by simp [hUl])
    simp [hp, hcm, hp2, ht1, ht2, hyl]
    refine ⟨⟨⟨γ 901, some (23, 1), ys⟩, ⟨γ 902, some (3, 1), US⟩⟩, ?_, ?_, ⟨⟨by simp only [maxLen]; show ys.length ≤ _; omega, hI.ok⟩, ⟨by simp only [maxLen]; show US.length ≤ _; omega, fun _ _ => trivial⟩⟩, ?_⟩
    · simp [cDec, cS, dSl]
    · rw [dcP, if_pos hok, ← hall, ← hUS]; simp [plDec, plS, map_plI]
    · exact good_Dec2 hI.good.nd hI.good.lo hI.good.wh (fun g h => ⟨(q1 g h).1, r1 g h⟩) (fun h => q2 (by simpa using h)) (fun g h => ⟨(q3 g h).1, r2 g h⟩) (fun h => q4 (by simpa using h)) r3
end

end Go.Proofs.YtpbcmlolapdfjaaGreatDoor


namespace Go.Proofs.YtpbcmlolapdfjaaGreatDoor
open Go.Vs Go.Proofs Go
set_option maxRecDepth 100000
set_option maxHeartbeats 1000000

end Go.Proofs.YtpbcmlolapdfjaaGreatDoor


namespace Go.Proofs.YtpbcmlolapdfjaaGreatDoor
open Go.Vs Go.Proofs Go
set_option maxRecDepth 100000
set_option maxHeartbeats 1000000

section
theorem w_impl_gcd (a b : Nat) (ha : a ≤ 4000000000000000000) (hb : b ≤ 4000000000000000000) : VC Tryz.prog 85 [.d (.int .i64 a), .d (.int .i64 b)] (fun _ r => r = .d (.int .i64 (Nat.gcd a b : Nat))) := by
  refine VC.ofL EP s85 (by kernel_rfl) Tryz.func85 (by rfl) (by kernel_rfl) (by simp [Tryz.f85]) (by simp [Tryz.f85]) s85_ok fun B hl => ?_
  simp [Tryz.f85, s85_2, s85_2, ]
  refine loop_rule (X := Nat × Nat) (fun p => p.1 ≤ 4000000000000000000 ∧ p.2 ≤ 4000000000000000000 ∧ Nat.gcd p.1 p.2 = Nat.gcd a b) (fun p => [(0, .d (.int .i64 p.1)), (1, .d (.int .i64 p.2))]) (fun _ => []) (fun p => p.2) (a, b) ⟨ha, hb, rfl⟩ (by simp) (by simp) ?_
  rintro ⟨x, y⟩ hs t m ⟨h1, h2, h3⟩ hh
  simp only at h1 h2 h3
  by_cases hy : y = 0
  · subst hy
    rw [Nat.gcd_zero_right] at h3
    simp [s85_2, h3]
  · have hm := Nat.mod_lt x (show 0 < y by omega)
    have h4 : Nat.gcd y (x % y) = Nat.gcd a b := by rw [← h3, Nat.gcd_comm x y, Nat.gcd_rec y x, Nat.gcd_comm]
    simp [s85_2, hy, tmod_nat]
    exact back (y, x % y) ⟨h2, by simp only; omega, h4⟩ (by simp only; omega) rfl (by simp <;> omega) (by simp) (by simp)
theorem w_impl_abs (n : Int) (h : n.natAbs ≤ 4000000000000000000) : VC Tryz.prog 86 [.d (.int .i64 n)] (fun _ r => r = .d (.int .i64 (n.natAbs : Nat))) := by
  refine VC.ofL EP s86 (by kernel_rfl) Tryz.func86 (by rfl) (by kernel_rfl) (by simp [Tryz.f86]) (by simp [Tryz.f86]) s86_ok fun B hl => ?_
  have hw : IntKind.i64.wrap (-n) = -n := wrap64_of (by omega) (by omega)
  by_cases h0 : n < -n
  · simp [Tryz.f86, hw, h0]
    omega
  · simp [Tryz.f86, hw, h0]
    omega
theorem w_impl_IsValidRational (q : _root_.Rat) (h : smQ q) : VC Tryz.prog 76 [.agg [.d (.int .i64 q.num), .d (.int .i64 (q.den : Int))]] (fun _ r => r = .d (.bool true)) := by
  obtain ⟨i1, i2, i3, i4⟩ := sm_i h
  have e1 : inR (q.den : Int) 1 1000000000 = true := by simp [inR]; omega
  have e2 : inR q.num (-1000000000) 1000000000 = true := by simp [inR]; omega
  have e3 := sm_gcd q
  refine VC.ofL EP s76 (by kernel_rfl) Tryz.func76 (by rfl) (by kernel_rfl) (by simp [Tryz.f76]) (by simp [Tryz.f76]) s76_ok fun B hl => ?_
  simp [Tryz.f76, s76_1, s76_1, ]
  refine call_f (w_impl_within q.den 1 1000000000) (by simp) rfl fun hs0 hh0 => ?_
  simp [e1]
  refine call_f (w_impl_within q.num (-1000000000) 1000000000) (by simp) rfl fun hs1 hh1 => ?_
  simp [e2]
  refine call_f (w_impl_abs q.num (by omega)) (by simp) rfl fun hs2 hh2 => ?_
  simp
  refine call_f (w_impl_gcd q.num.natAbs q.den (by omega) (by omega)) (by simp) rfl fun hs3 hh3 => ?_
  simp [e3]
theorem w_impl_NewRational (n d : Int) (q : _root_.Rat) (hq : q = _root_.Rat.divInt n d) (hd : d ≠ 0) (hn4 : n.natAbs ≤ 4000000000000000000) (hd4 : d.natAbs ≤ 4000000000000000000) (h : smQ q) :
   VC Tryz.prog 113 [.d (.int .i64 n), .d (.int .i64 d)] (fun _ r => r = .tup [.agg [.d (.int .i64 q.num), .d (.int .i64 (q.den : Int))], .d (.bool true)]) := by
  have e1 : inR n (-4000000000000000000) 4000000000000000000 = true := by simp [inR]; omega
  have e2 : inR d (-4000000000000000000) 4000000000000000000 = true := by simp [inR]; omega
  have wn : IntKind.i64.wrap (-n) = -n := wrap64_of (by omega) (by omega)
  have wd : IntKind.i64.wrap (-d) = -d := wrap64_of (by omega) (by omega)
  obtain ⟨i1, i2, i3, i4⟩ := sm_i h
  have wq : IntKind.i64.wrap q.num = q.num := wrap64_of (by omega) (by omega)
  have wr : IntKind.i64.wrap (q.den : Int) = q.den := wrap64_of (by omega) (by omega)
  refine VC.ofL EP s113 (by kernel_rfl) Tryz.func113 (by rfl) (by kernel_rfl) (by simp [Tryz.f113]) (by simp [Tryz.f113]) s113_ok fun B hl => ?_
  simp [Tryz.f113, s113_6, s113_6, hd]
  refine call_f (w_impl_within n (-4000000000000000000) 4000000000000000000) (by simp) rfl fun hs0 hh0 => ?_
  simp [e1]
  refine call_f (w_impl_within d (-4000000000000000000) 4000000000000000000) (by simp) rfl fun hs1 hh1 => ?_
  simp [e2]
  by_cases h0 : d < 0
  · have hp : 0 < -d := by omega
    obtain ⟨a1, a2⟩ := norm_num (n := -n) (d := -d) (q := q) (by rw [hq, q_flip]) hp
    obtain ⟨b1, b2⟩ := gcd_le (n := -n) hp
    have b3 : Nat.gcd (-n).natAbs (-d).natAbs ≠ 0 := by omega
    have hdn : ((-d).natAbs : Int) = -d := by omega
    simp [h0, wn, wd]
    refine call_f (w_impl_abs (-n) (by omega)) (by simp) rfl fun hs2 hh2 => ?_
    simp [-Int.natAbs_neg]
    refine call_f (w_impl_gcd (-n).natAbs (-d).natAbs (by omega) (by omega)) (by simp [-Int.natAbs_neg, hdn]) rfl fun hs3 hh3 => ?_
    simp [-Int.natAbs_neg, b3, a1, a2, wq, wr, s113_6, ]
    refine call_f (w_impl_IsValidRational q h) (by simp) rfl fun hs4 hh4 => ?_
    simp
  · have hp : 0 < d := by omega
    obtain ⟨a1, a2⟩ := norm_num (n := n) (d := d) (q := q) hq hp
    obtain ⟨b1, b2⟩ := gcd_le (n := n) hp
    have b3 : Nat.gcd n.natAbs d.natAbs ≠ 0 := by omega
    have hdn : (d.natAbs : Int) = d := by omega
    simp [h0]
    refine call_f (w_impl_abs n (by omega)) (by simp) rfl fun hs2 hh2 => ?_
    simp
    refine call_f (w_impl_gcd n.natAbs d.natAbs (by omega) (by omega)) (by simp [hdn]) rfl fun hs3 hh3 => ?_
    simp [b3, a1, a2, wq, wr, s113_6, ]
    refine call_f (w_impl_IsValidRational q h) (by simp) rfl fun hs4 hh4 => ?_
    simp
theorem w_impl_bothValid (a b : _root_.Rat) (ha : smQ a) (hb : smQ b) : VC Tryz.prog 53 [.agg [.d (.int .i64 a.num), .d (.int .i64 (a.den : Int))], .agg [.d (.int .i64 b.num), .d (.int .i64 (b.den : Int))]] (fun _ r => r = .d (.bool true)) := by
  refine VC.ofL EP s53 (by kernel_rfl) Tryz.func53 (by rfl) (by kernel_rfl) (by simp [Tryz.f53]) (by simp [Tryz.f53]) s53_ok fun B hl => ?_
  simp [Tryz.f53, ]
  refine call_f (w_impl_IsValidRational a ha) (by simp) rfl fun hs0 hh0 => ?_
  simp
  refine call_f (w_impl_IsValidRational b hb) (by simp) rfl fun hs1 hh1 => ?_
  simp
theorem w_impl_AddRational (a b : _root_.Rat) (ha : smQ a) (hb : smQ b) (h : smQ (a + b)) : VC Tryz.prog 105 [.agg [.d (.int .i64 a.num), .d (.int .i64 (a.den : Int))], .agg [.d (.int .i64 b.num), .d (.int .i64 (b.den : Int))]]
   (fun _ r => r = .tup [.agg [.d (.int .i64 (a + b).num), .d (.int .i64 ((a + b).den : Int))], .d (.bool true)]) := by
  obtain ⟨m1, m2, m3, m4, m5⟩ := sm_mul ha hb
  have w1 : IntKind.i64.wrap (a.num * b.den) = a.num * b.den := wrap64_of (by omega) (by omega)
  have w2 : IntKind.i64.wrap (b.num * a.den) = b.num * a.den := wrap64_of (by omega) (by omega)
  have w3 : IntKind.i64.wrap (a.num * b.den + b.num * a.den) = a.num * b.den + b.num * a.den := wrap64_of (by omega) (by omega)
  have w4 : IntKind.i64.wrap ((a.den : Int) * b.den) = (a.den : Int) * b.den := wrap64_of (by omega) (by omega)
  have hp : (0 : Int) < (a.den : Int) * b.den := den_mul
  refine VC.ofL EP s105 (by kernel_rfl) Tryz.func105 (by rfl) (by kernel_rfl) (by simp [Tryz.f105]) (by simp [Tryz.f105]) s105_ok fun B hl => ?_
  simp [Tryz.f105, ]
  refine call_f (w_impl_bothValid a b ha hb) (by simp) rfl fun hs0 hh0 => ?_
  simp [w1, w2, w3, w4]
  refine call_f (w_impl_NewRational (a.num * b.den + b.num * a.den) ((a.den : Int) * b.den) (a + b) (q_add a b) (by omega) (by omega) (by omega) h) (by simp) rfl fun hs1 hh1 => ?_
  simp
theorem w_impl_SubRational (a b : _root_.Rat) (ha : smQ a) (hb : smQ b) (h : smQ (a - b)) : VC Tryz.prog 115 [.agg [.d (.int .i64 a.num), .d (.int .i64 (a.den : Int))], .agg [.d (.int .i64 b.num), .d (.int .i64 (b.den : Int))]]
   (fun _ r => r = .tup [.agg [.d (.int .i64 (a - b).num), .d (.int .i64 ((a - b).den : Int))], .d (.bool true)]) := by
  obtain ⟨i1, i2, i3, i4⟩ := sm_i hb
  have w1 : IntKind.i64.wrap (-b.num) = (-b).num := by rw [(q_neg b).1]; exact wrap64_of (by omega) (by omega)
  have e2 : (b.den : Int) = ((-b).den : Int) := by rw [(q_neg b).2]
  have e3 : a - b = a + -b := q_sub a b
  rw [e3] at h ⊢
  refine VC.ofL EP s115 (by kernel_rfl) Tryz.func115 (by rfl) (by kernel_rfl) (by simp [Tryz.f115]) (by simp [Tryz.f115]) s115_ok fun B hl => ?_
  simp [Tryz.f115, w1]
  refine call_f (w_impl_AddRational a (-b) ha (sm_neg hb) h) (by simp [(q_neg b).2]) rfl fun hs0 hh0 => ?_
  simp
theorem w_impl_MulRational (a b : _root_.Rat) (ha : smQ a) (hb : smQ b) (h : smQ (a * b)) : VC Tryz.prog 104 [.agg [.d (.int .i64 a.num), .d (.int .i64 (a.den : Int))], .agg [.d (.int .i64 b.num), .d (.int .i64 (b.den : Int))]]
   (fun _ r => r = .tup [.agg [.d (.int .i64 (a * b).num), .d (.int .i64 ((a * b).den : Int))], .d (.bool true)]) := by
  obtain ⟨m1, m2, m3, m4, m5⟩ := sm_mul ha hb
  have w3 : IntKind.i64.wrap (a.num * b.num) = a.num * b.num := wrap64_of (by omega) (by omega)
  have w4 : IntKind.i64.wrap ((a.den : Int) * b.den) = (a.den : Int) * b.den := wrap64_of (by omega) (by omega)
  have hp : (0 : Int) < (a.den : Int) * b.den := den_mul
  refine VC.ofL EP s104 (by kernel_rfl) Tryz.func104 (by rfl) (by kernel_rfl) (by simp [Tryz.f104]) (by simp [Tryz.f104]) s104_ok fun B hl => ?_
  simp [Tryz.f104, ]
  refine call_f (w_impl_bothValid a b ha hb) (by simp) rfl fun hs0 hh0 => ?_
  simp [w3, w4]
  refine call_f (w_impl_NewRational (a.num * b.num) ((a.den : Int) * b.den) (a * b) (q_mul a b) (by omega) (by omega) (by omega) h) (by simp) rfl fun hs1 hh1 => ?_
  simp
theorem w_impl_DivRational (a b : _root_.Rat) (ha : smQ a) (hb : smQ b) (hne : b ≠ 0) (h : smQ (a / b)) : VC Tryz.prog 111 [.agg [.d (.int .i64 a.num), .d (.int .i64 (a.den : Int))], .agg [.d (.int .i64 b.num), .d (.int .i64 (b.den : Int))]]
   (fun _ r => r = .tup [.agg [.d (.int .i64 (a / b).num), .d (.int .i64 ((a / b).den : Int))], .d (.bool true)]) := by
  obtain ⟨m1, m2, m3, m4, m5⟩ := sm_mul ha hb
  have hbn := num_ne hne
  have w3 : IntKind.i64.wrap (a.num * b.den) = a.num * b.den := wrap64_of (by omega) (by omega)
  have w4 : IntKind.i64.wrap ((a.den : Int) * b.num) = (a.den : Int) * b.num := wrap64_of (by omega) (by omega)
  have hp : (a.den : Int) * b.num ≠ 0 := Int.mul_ne_zero (by have := sm_pos (q := a); omega) hbn
  refine VC.ofL EP s111 (by kernel_rfl) Tryz.func111 (by rfl) (by kernel_rfl) (by simp [Tryz.f111]) (by simp [Tryz.f111]) s111_ok fun B hl => ?_
  simp [Tryz.f111, ]
  refine call_f (w_impl_bothValid a b ha hb) (by simp) rfl fun hs0 hh0 => ?_
  simp [w3, w4, hbn]
  refine call_f (w_impl_NewRational (a.num * b.den) ((a.den : Int) * b.num) (a / b) (q_div a b) hp (by omega) (by omega) h) (by simp) rfl fun hs1 hh1 => ?_
  simp
theorem w_impl_CompareRationals (a b : _root_.Rat) (ha : smQ a) (hb : smQ b) : VC Tryz.prog 25 [.agg [.d (.int .i64 a.num), .d (.int .i64 (a.den : Int))], .agg [.d (.int .i64 b.num), .d (.int .i64 (b.den : Int))]]
   (fun _ r => r = .d (.int .i64 (cmpQ a b))) := by
  obtain ⟨m1, m2, m3, m4, m5⟩ := sm_mul ha hb
  have w1 : IntKind.i64.wrap (a.num * b.den) = a.num * b.den := wrap64_of (by omega) (by omega)
  have w2 : IntKind.i64.wrap (b.num * a.den) = b.num * a.den := wrap64_of (by omega) (by omega)
  refine VC.ofL EP s25 (by kernel_rfl) Tryz.func25 (by rfl) (by kernel_rfl) (by simp [Tryz.f25]) (by simp [Tryz.f25]) s25_ok fun B hl => ?_
  simp [Tryz.f25, ]
  refine call_f (w_impl_bothValid a b ha hb) (by simp) rfl fun hs0 hh0 => ?_
  simp [w1, w2]
  refine call_f (w_impl_compareInts (a.num * b.den) (b.num * a.den)) (by simp) rfl fun hs1 hh1 => ?_
  simp [cmpQ_eq]
end

end Go.Proofs.YtpbcmlolapdfjaaGreatDoor


namespace Go.Proofs.YtpbcmlolapdfjaaGreatDoor
open Go.Vs Go.Proofs Go
set_option maxRecDepth 100000
set_option maxHeartbeats 1000000

section
theorem w_spec_l2Gcd (a b : Nat) (ha : a ≤ 4000000000000000000) (hb : b ≤ 4000000000000000000) : VC Tryz.prog 64 [.d (.int .i64 a), .d (.int .i64 b)] (fun _ r => r = .d (.int .i64 (Nat.gcd a b : Nat))) := by
  refine VC.ofL EP s64 (by kernel_rfl) Tryz.func64 (by rfl) (by kernel_rfl) (by simp [Tryz.f64]) (by simp [Tryz.f64]) s64_ok fun B hl => ?_
  simp [Tryz.f64, ]
  refine loop_rule (X := Nat × Nat) (fun p => p.1 ≤ 4000000000000000000 ∧ p.2 ≤ 4000000000000000000 ∧ Nat.gcd p.1 p.2 = Nat.gcd a b) (fun p => [(0, .d (.int .i64 p.1)), (1, .d (.int .i64 p.2))]) (fun _ => []) (fun p => p.2) (a, b) ⟨ha, hb, rfl⟩ (by simp) (by simp) ?_
  rintro ⟨x, y⟩ hs t m ⟨h1, h2, h3⟩ hh
  simp only at h1 h2 h3
  by_cases hy : y = 0
  · subst hy
    rw [Nat.gcd_zero_right] at h3
    simp [h3]
  · have hm := Nat.mod_lt x (show 0 < y by omega)
    have h4 : Nat.gcd y (x % y) = Nat.gcd a b := by rw [← h3, Nat.gcd_comm x y, Nat.gcd_rec y x, Nat.gcd_comm]
    simp [hy, tmod_nat]
    exact back (y, x % y) ⟨h2, by simp only; omega, h4⟩ (by simp only; omega) rfl (by simp <;> omega) (by simp) (by simp)
theorem w_spec_IsValidRational (q : _root_.Rat) (h : smQ q) : VC Tryz.prog 41 [.agg [.d (.int .i64 q.num), .d (.int .i64 (q.den : Int))]] (fun _ r => r = .d (.bool true)) := by
  obtain ⟨i1, i2, i3, i4⟩ := sm_i h
  have e1 : inR (q.den : Int) 1 1000000000 = true := by simp [inR]; omega
  have e2 : inR q.num (-1000000000) 1000000000 = true := by simp [inR]; omega
  have e3 := sm_gcd q
  have hw : IntKind.i64.wrap (-q.num) = -q.num := wrap64_of (by omega) (by omega)
  refine VC.ofL EP s41 (by kernel_rfl) Tryz.func41 (by rfl) (by kernel_rfl) (by simp [Tryz.f41]) (by simp [Tryz.f41]) s41_ok fun B hl => ?_
  simp [Tryz.f41, ]
  refine call_f (w_spec_l1In q.den 1 1000000000) (by simp) rfl fun hs0 hh0 => ?_
  simp [e1]
  refine call_f (w_spec_l1In q.num (-1000000000) 1000000000) (by simp) rfl fun hs1 hh1 => ?_
  simp [e2, hw]
  refine call_f (w_spec_l2Gcd q.num.natAbs q.den (by omega) (by omega)) (by simp; omega) rfl fun hs3 hh3 => ?_
  simp [e3]
theorem w_spec_NewRational (n d : Int) (q : _root_.Rat) (hq : q = _root_.Rat.divInt n d) (hd : d ≠ 0) (hn4 : n.natAbs ≤ 4000000000000000000) (hd4 : d.natAbs ≤ 4000000000000000000) (h : smQ q) :
   VC Tryz.prog 109 [.d (.int .i64 n), .d (.int .i64 d)] (fun _ r => r = .tup [.agg [.d (.int .i64 q.num), .d (.int .i64 (q.den : Int))], .d (.bool true)]) := by
  have e1 : inR n (-4000000000000000000) 4000000000000000000 = true := by simp [inR]; omega
  have e2 : inR d (-4000000000000000000) 4000000000000000000 = true := by simp [inR]; omega
  have wm : IntKind.i64.wrap (-4000000000000000000) = -4000000000000000000 := wrap64_of (by omega) (by omega)
  have wn : IntKind.i64.wrap (-n) = -n := wrap64_of (by omega) (by omega)
  have wd : IntKind.i64.wrap (-d) = -d := wrap64_of (by omega) (by omega)
  obtain ⟨i1, i2, i3, i4⟩ := sm_i h
  have wq : IntKind.i64.wrap q.num = q.num := wrap64_of (by omega) (by omega)
  have wr : IntKind.i64.wrap (q.den : Int) = q.den := wrap64_of (by omega) (by omega)
  refine VC.ofL EP s109 (by kernel_rfl) Tryz.func109 (by rfl) (by kernel_rfl) (by simp [Tryz.f109]) (by simp [Tryz.f109]) s109_ok fun B hl => ?_
  simp [Tryz.f109, s109_8, s109_8, hd, wm]
  refine call_f (w_spec_l1In n (-4000000000000000000) 4000000000000000000) (by simp) rfl fun hs0 hh0 => ?_
  simp [e1, wm]
  refine call_f (w_spec_l1In d (-4000000000000000000) 4000000000000000000) (by simp) rfl fun hs1 hh1 => ?_
  simp [e2]
  by_cases h0 : d < 0
  · have hp : 0 < -d := by omega
    obtain ⟨a1, a2⟩ := norm_num (n := -n) (d := -d) (q := q) (by rw [hq, q_flip]) hp
    obtain ⟨b1, b2⟩ := gcd_le (n := -n) hp
    have b3 : Nat.gcd (-n).natAbs (-d).natAbs ≠ 0 := by omega
    have hdn : ((-d).natAbs : Int) = -d := by omega
    have wn2 : IntKind.i64.wrap n = n := wrap64_of (by omega) (by omega)
    simp [h0, wn, wd, wn2]
    refine call_f (w_spec_l2Gcd (-n).natAbs (-d).natAbs (by omega) (by omega)) (by simp [-Int.natAbs_neg, hdn]; omega) rfl fun hs3 hh3 => ?_
    simp [-Int.natAbs_neg, b3, a1, a2, wq, wr, s109_8, ]
    refine call_f (w_spec_IsValidRational q h) (by simp) rfl fun hs4 hh4 => ?_
    simp
  · have hp : 0 < d := by omega
    obtain ⟨a1, a2⟩ := norm_num (n := n) (d := d) (q := q) hq hp
    obtain ⟨b1, b2⟩ := gcd_le (n := n) hp
    have b3 : Nat.gcd n.natAbs d.natAbs ≠ 0 := by omega
    have hdn : (d.natAbs : Int) = d := by omega
    simp [h0, wn]
    refine call_f (w_spec_l2Gcd n.natAbs d.natAbs (by omega) (by omega)) (by simp [hdn]; omega) rfl fun hs3 hh3 => ?_
    simp [b3, a1, a2, wq, wr, s109_8, ]
    refine call_f (w_spec_IsValidRational q h) (by simp) rfl fun hs4 hh4 => ?_
    simp
theorem w_spec_AddRational (a b : _root_.Rat) (ha : smQ a) (hb : smQ b) (h : smQ (a + b)) : VC Tryz.prog 98 [.agg [.d (.int .i64 a.num), .d (.int .i64 (a.den : Int))], .agg [.d (.int .i64 b.num), .d (.int .i64 (b.den : Int))]]
   (fun _ r => r = .tup [.agg [.d (.int .i64 (a + b).num), .d (.int .i64 ((a + b).den : Int))], .d (.bool true)]) := by
  obtain ⟨m1, m2, m3, m4, m5⟩ := sm_mul ha hb
  have w1 : IntKind.i64.wrap (a.num * b.den) = a.num * b.den := wrap64_of (by omega) (by omega)
  have w2 : IntKind.i64.wrap (b.num * a.den) = b.num * a.den := wrap64_of (by omega) (by omega)
  have w3 : IntKind.i64.wrap (a.num * b.den + b.num * a.den) = a.num * b.den + b.num * a.den := wrap64_of (by omega) (by omega)
  have w4 : IntKind.i64.wrap ((a.den : Int) * b.den) = (a.den : Int) * b.den := wrap64_of (by omega) (by omega)
  have hp : (0 : Int) < (a.den : Int) * b.den := den_mul
  refine VC.ofL EP s98 (by kernel_rfl) Tryz.func98 (by rfl) (by kernel_rfl) (by simp [Tryz.f98]) (by simp [Tryz.f98]) s98_ok fun B hl => ?_
  simp [Tryz.f98, ]
  refine call_f (w_spec_IsValidRational a ha) (by simp) rfl fun hs0 hh0 => ?_
  simp
  refine call_f (w_spec_IsValidRational b hb) (by simp) rfl fun hs1 hh1 => ?_
  simp [w1, w2, w3, w4]
  refine call_f (w_spec_NewRational (a.num * b.den + b.num * a.den) ((a.den : Int) * b.den) (a + b) (q_add a b) (by omega) (by omega) (by omega) h) (by simp) rfl fun hs2 hh2 => ?_
  simp
theorem w_spec_SubRational (a b : _root_.Rat) (ha : smQ a) (hb : smQ b) (h : smQ (a - b)) : VC Tryz.prog 114 [.agg [.d (.int .i64 a.num), .d (.int .i64 (a.den : Int))], .agg [.d (.int .i64 b.num), .d (.int .i64 (b.den : Int))]]
   (fun _ r => r = .tup [.agg [.d (.int .i64 (a - b).num), .d (.int .i64 ((a - b).den : Int))], .d (.bool true)]) := by
  obtain ⟨i1, i2, i3, i4⟩ := sm_i hb
  have w1 : IntKind.i64.wrap (-b.num) = (-b).num := by rw [(q_neg b).1]; exact wrap64_of (by omega) (by omega)
  have e3 : a - b = a + -b := q_sub a b
  rw [e3] at h ⊢
  refine VC.ofL EP s114 (by kernel_rfl) Tryz.func114 (by rfl) (by kernel_rfl) (by simp [Tryz.f114]) (by simp [Tryz.f114]) s114_ok fun B hl => ?_
  simp [Tryz.f114, ]
  refine call_f (w_spec_IsValidRational b hb) (by simp) rfl fun hs0 hh0 => ?_
  simp [w1]
  refine call_f (w_spec_AddRational a (-b) ha (sm_neg hb) h) (by simp [(q_neg b).2]) rfl fun hs0 hh0 => ?_
  simp
theorem w_spec_MulRational (a b : _root_.Rat) (ha : smQ a) (hb : smQ b) (h : smQ (a * b)) : VC Tryz.prog 97 [.agg [.d (.int .i64 a.num), .d (.int .i64 (a.den : Int))], .agg [.d (.int .i64 b.num), .d (.int .i64 (b.den : Int))]]
   (fun _ r => r = .tup [.agg [.d (.int .i64 (a * b).num), .d (.int .i64 ((a * b).den : Int))], .d (.bool true)]) := by
  obtain ⟨m1, m2, m3, m4, m5⟩ := sm_mul ha hb
  have w3 : IntKind.i64.wrap (a.num * b.num) = a.num * b.num := wrap64_of (by omega) (by omega)
  have w4 : IntKind.i64.wrap ((a.den : Int) * b.den) = (a.den : Int) * b.den := wrap64_of (by omega) (by omega)
  have hp : (0 : Int) < (a.den : Int) * b.den := den_mul
  refine VC.ofL EP s97 (by kernel_rfl) Tryz.func97 (by rfl) (by kernel_rfl) (by simp [Tryz.f97]) (by simp [Tryz.f97]) s97_ok fun B hl => ?_
  simp [Tryz.f97, ]
  refine call_f (w_spec_IsValidRational a ha) (by simp) rfl fun hs0 hh0 => ?_
  simp
  refine call_f (w_spec_IsValidRational b hb) (by simp) rfl fun hs1 hh1 => ?_
  simp [w3, w4]
  refine call_f (w_spec_NewRational (a.num * b.num) ((a.den : Int) * b.den) (a * b) (q_mul a b) (by omega) (by omega) (by omega) h) (by simp) rfl fun hs2 hh2 => ?_
  simp
theorem w_spec_DivRational (a b : _root_.Rat) (ha : smQ a) (hb : smQ b) (hne : b ≠ 0) (h : smQ (a / b)) : VC Tryz.prog 107 [.agg [.d (.int .i64 a.num), .d (.int .i64 (a.den : Int))], .agg [.d (.int .i64 b.num), .d (.int .i64 (b.den : Int))]]
   (fun _ r => r = .tup [.agg [.d (.int .i64 (a / b).num), .d (.int .i64 ((a / b).den : Int))], .d (.bool true)]) := by
  obtain ⟨m1, m2, m3, m4, m5⟩ := sm_mul ha hb
  have hbn := num_ne hne
  have w3 : IntKind.i64.wrap (a.num * b.den) = a.num * b.den := wrap64_of (by omega) (by omega)
  have w4 : IntKind.i64.wrap ((a.den : Int) * b.num) = (a.den : Int) * b.num := wrap64_of (by omega) (by omega)
  have hp : (a.den : Int) * b.num ≠ 0 := Int.mul_ne_zero (by have := sm_pos (q := a); omega) hbn
  refine VC.ofL EP s107 (by kernel_rfl) Tryz.func107 (by rfl) (by kernel_rfl) (by simp [Tryz.f107]) (by simp [Tryz.f107]) s107_ok fun B hl => ?_
  simp [Tryz.f107, ]
  refine call_f (w_spec_IsValidRational a ha) (by simp) rfl fun hs0 hh0 => ?_
  simp
  refine call_f (w_spec_IsValidRational b hb) (by simp) rfl fun hs1 hh1 => ?_
  simp [w3, w4]
  refine call_f (w_spec_NewRational (a.num * b.den) ((a.den : Int) * b.num) (a / b) (q_div a b) hp (by omega) (by omega) h) (by simp) rfl fun hs2 hh2 => ?_
  simp
theorem w_spec_CompareRationals (a b : _root_.Rat) (ha : smQ a) (hb : smQ b) : VC Tryz.prog 19 [.agg [.d (.int .i64 a.num), .d (.int .i64 (a.den : Int))], .agg [.d (.int .i64 b.num), .d (.int .i64 (b.den : Int))]]
   (fun _ r => r = .d (.int .i64 (cmpQ a b))) := by
  obtain ⟨m1, m2, m3, m4, m5⟩ := sm_mul ha hb
  have w1 : IntKind.i64.wrap (a.num * b.den) = a.num * b.den := wrap64_of (by omega) (by omega)
  have w2 : IntKind.i64.wrap (b.num * a.den) = b.num * a.den := wrap64_of (by omega) (by omega)
  refine VC.ofL EP s19 (by kernel_rfl) Tryz.func19 (by rfl) (by kernel_rfl) (by simp [Tryz.f19]) (by simp [Tryz.f19]) s19_ok fun B hl => ?_
  simp [Tryz.f19, ]
  refine call_f (w_spec_IsValidRational a ha) (by simp) rfl fun hs0 hh0 => ?_
  simp
  refine call_f (w_spec_IsValidRational b hb) (by simp) rfl fun hs1 hh1 => ?_
  simp [w1, w2]
  rw [cmpQ_eq]
  by_cases h1 : a.num * b.den < b.num * a.den
  · simp [h1]
  · by_cases h2 : b.num * a.den < a.num * b.den <;> simp [h1, h2]
end

end Go.Proofs.YtpbcmlolapdfjaaGreatDoor

