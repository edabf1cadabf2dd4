/-
  Q1B1: a part of a proof of this seat: the value-level semantics of Go code without maps, its walk rules, the frame of a row, facts of types, schedules, walks, plain lemmas (Facts1 Sched1 H0 HP1 HP2 H1 HP3 P1 P1b P1c P1d P1e Q1 Q2 Q3 V1 P2 N1 N2 S3 N3 M1). It holds of every program and state that its hypotheses name.
-/
import Derived.Test.YtdnbigokdclclaaGreatQ1A4
import Derived.Test.YtdnbigokdclclaaGreatProg
import Derived.KernelRfl
set_option linter.unusedSimpArgs false
set_option linter.unusedVariables false
set_option linter.unnecessarySimpa false
namespace Go.Proofs.YtdnbigokdclclaaGreat
open Go.Vs Go.Proofs

theorem tsz3 : tsz Tryz.prog 3 = some 1 := by kernel_rfl
theorem tsz4 : tsz Tryz.prog 4 = some 1 := by kernel_rfl
theorem tsz5 : tsz Tryz.prog 5 = some 1 := by kernel_rfl
theorem tsz9 : tsz Tryz.prog 9 = some 1 := by kernel_rfl
theorem tsz22 : tsz Tryz.prog 22 = some 1 := by kernel_rfl
theorem tsz24 : tsz Tryz.prog 24 = some 1 := by kernel_rfl
theorem tsz25 : tsz Tryz.prog 25 = some 1 := by kernel_rfl
theorem tsz26 : tsz Tryz.prog 26 = some 1 := by kernel_rfl
theorem tsz28 : tsz Tryz.prog 28 = some 3 := by kernel_rfl
theorem tsz29 : tsz Tryz.prog 29 = some 1 := by kernel_rfl
theorem tsz31 : tsz Tryz.prog 31 = some 2 := by kernel_rfl
theorem tsz33 : tsz Tryz.prog 33 = some 5 := by kernel_rfl
theorem tsz38 : tsz Tryz.prog 38 = some 3 := by kernel_rfl
theorem tsz41 : tsz Tryz.prog 41 = some 1 := by kernel_rfl
theorem tsz43 : tsz Tryz.prog 43 = some 1 := by kernel_rfl
theorem tsz45 : tsz Tryz.prog 45 = some 1 := by kernel_rfl
theorem tsz47 : tsz Tryz.prog 47 = some 3 := by kernel_rfl
theorem tsz49 : tsz Tryz.prog 49 = some 2 := by kernel_rfl
theorem tsz51 : tsz Tryz.prog 51 = some 5 := by kernel_rfl
theorem tsz62 : tsz Tryz.prog 62 = some 1 := by kernel_rfl
theorem tsz69 : tsz Tryz.prog 69 = some 6 := by kernel_rfl
theorem tsz102 : tsz Tryz.prog 102 = some 2 := by kernel_rfl
theorem tsz153 : tsz Tryz.prog 153 = some 3 := by kernel_rfl
theorem tsz155 : tsz Tryz.prog 155 = some 2 := by kernel_rfl
theorem tsz159 : tsz Tryz.prog 159 = some 3 := by kernel_rfl
theorem tsz182 : tsz Tryz.prog 182 = some 3 := by kernel_rfl
theorem tagg3 : tagg Tryz.prog 3 = some false := by kernel_rfl
theorem tagg4 : tagg Tryz.prog 4 = some false := by kernel_rfl
theorem tagg5 : tagg Tryz.prog 5 = some false := by kernel_rfl
theorem tagg9 : tagg Tryz.prog 9 = some false := by kernel_rfl
theorem tagg22 : tagg Tryz.prog 22 = some false := by kernel_rfl
theorem tagg24 : tagg Tryz.prog 24 = some true := by kernel_rfl
theorem tagg25 : tagg Tryz.prog 25 = some false := by kernel_rfl
theorem tagg26 : tagg Tryz.prog 26 = some false := by kernel_rfl
theorem tagg28 : tagg Tryz.prog 28 = some true := by kernel_rfl
theorem tagg29 : tagg Tryz.prog 29 = some false := by kernel_rfl
theorem tagg31 : tagg Tryz.prog 31 = some true := by kernel_rfl
theorem tagg33 : tagg Tryz.prog 33 = some true := by kernel_rfl
theorem tagg38 : tagg Tryz.prog 38 = some true := by kernel_rfl
theorem tagg41 : tagg Tryz.prog 41 = some false := by kernel_rfl
theorem tagg43 : tagg Tryz.prog 43 = some true := by kernel_rfl
theorem tagg45 : tagg Tryz.prog 45 = some false := by kernel_rfl
theorem tagg47 : tagg Tryz.prog 47 = some true := by kernel_rfl
theorem tagg49 : tagg Tryz.prog 49 = some true := by kernel_rfl
theorem tagg51 : tagg Tryz.prog 51 = some true := by kernel_rfl
theorem tagg62 : tagg Tryz.prog 62 = some false := by kernel_rfl
theorem tagg69 : tagg Tryz.prog 69 = some true := by kernel_rfl
theorem tagg102 : tagg Tryz.prog 102 = some true := by kernel_rfl
theorem tagg153 : tagg Tryz.prog 153 = some true := by kernel_rfl
theorem tagg155 : tagg Tryz.prog 155 = some true := by kernel_rfl
theorem tagg159 : tagg Tryz.prog 159 = some true := by kernel_rfl
theorem tagg182 : tagg Tryz.prog 182 = some true := by kernel_rfl
theorem tzero3 : tzero Tryz.prog 3 = some [.int .i64 0] := by kernel_rfl
theorem tzero4 : tzero Tryz.prog 4 = some [.bool false] := by kernel_rfl
theorem tzero26 : tzero Tryz.prog 26 = some [.sl none none []] := by kernel_rfl
theorem tzero38 : tzero Tryz.prog 38 = some [.int .i64 0, .sl none none [], .sl none none []] := by kernel_rfl
theorem tzero43 : tzero Tryz.prog 43 = some [.sl none none []] := by kernel_rfl
theorem tzero47 : tzero Tryz.prog 47 = some [.int .i64 0, .sl none none [], .sl none none []] := by kernel_rfl
theorem tzero49 : tzero Tryz.prog 49 = some [.int .i64 0, .sl none none []] := by kernel_rfl
theorem tzero51 : tzero Tryz.prog 51 = some [.str [], .int .i64 0, .sl none none [], .int .i64 0, .sl none none []] := by kernel_rfl
theorem tzero69 : tzero Tryz.prog 69 = some [.int .i64 0, .sl none none [], .sl none none [], .int .i64 0, .sl none none [], .sl none none []] := by kernel_rfl
theorem tzero102 : tzero Tryz.prog 102 = some [.str [], .sl none none []] := by kernel_rfl
theorem tzero159 : tzero Tryz.prog 159 = some [.str [], .int .i64 0, .sl none none []] := by kernel_rfl
theorem tzero177 : tzero Tryz.prog 177 = some [.sl none none [], .int .i64 0, .int .i64 0] := by kernel_rfl
theorem tzero182 : tzero Tryz.prog 182 = some [.sl none none [], .int .i64 0, .sl none none []] := by kernel_rfl
theorem tslice22 : tslice Tryz.prog 22 = some (153, 3, 48) := by kernel_rfl
theorem telem22 : telem Tryz.prog 22 = some 153 := by kernel_rfl
theorem tslice25 : tslice Tryz.prog 25 = some (155, 2, 40) := by kernel_rfl
theorem telem25 : telem Tryz.prog 25 = some 155 := by kernel_rfl
theorem tslice26 : tslice Tryz.prog 26 = some (3, 1, 8) := by kernel_rfl
theorem telem26 : telem Tryz.prog 26 = some 3 := by kernel_rfl
theorem tslice29 : tslice Tryz.prog 29 = some (26, 1, 24) := by kernel_rfl
theorem telem29 : telem Tryz.prog 29 = some 26 := by kernel_rfl
theorem tslice41 : tslice Tryz.prog 41 = some (159, 3, 48) := by kernel_rfl
theorem telem41 : telem Tryz.prog 41 = some 159 := by kernel_rfl
theorem tslice45 : tslice Tryz.prog 45 = some (102, 2, 40) := by kernel_rfl
theorem telem45 : telem Tryz.prog 45 = some 102 := by kernel_rfl
theorem tslice62 : tslice Tryz.prog 62 = some (5, 1, 1) := by kernel_rfl
theorem telem62 : telem Tryz.prog 62 = some 5 := by kernel_rfl
theorem tslice82 : tslice Tryz.prog 82 = some (51, 5, 80) := by kernel_rfl
theorem telem82 : telem Tryz.prog 82 = some 51 := by kernel_rfl
theorem tslice86 : tslice Tryz.prog 86 = some (9, 1, 16) := by kernel_rfl
theorem telem86 : telem Tryz.prog 86 = some 9 := by kernel_rfl
theorem tslice99 : tslice Tryz.prog 99 = some (29, 1, 24) := by kernel_rfl
theorem telem99 : telem Tryz.prog 99 = some 29 := by kernel_rfl
theorem tslice190 : tslice Tryz.prog 190 = some (4, 1, 1) := by kernel_rfl
theorem telem190 : telem Tryz.prog 190 = some 4 := by kernel_rfl
theorem tstr9 : tstr Tryz.prog 9 = some true := by kernel_rfl
theorem tstr22 : tstr Tryz.prog 22 = some false := by kernel_rfl
theorem tstr25 : tstr Tryz.prog 25 = some false := by kernel_rfl
theorem tstr26 : tstr Tryz.prog 26 = some false := by kernel_rfl
theorem tstr29 : tstr Tryz.prog 29 = some false := by kernel_rfl
theorem tstr41 : tstr Tryz.prog 41 = some false := by kernel_rfl
theorem tstr45 : tstr Tryz.prog 45 = some false := by kernel_rfl
theorem tstr62 : tstr Tryz.prog 62 = some false := by kernel_rfl
theorem tstr82 : tstr Tryz.prog 82 = some false := by kernel_rfl
theorem tstr86 : tstr Tryz.prog 86 = some false := by kernel_rfl
theorem tstr190 : tstr Tryz.prog 190 = some false := by kernel_rfl
theorem tfld38 : tfld Tryz.prog 38 = true := by kernel_rfl
theorem tfld43 : tfld Tryz.prog 43 = true := by kernel_rfl
theorem tfld47 : tfld Tryz.prog 47 = true := by kernel_rfl
theorem tfld49 : tfld Tryz.prog 49 = true := by kernel_rfl
theorem tfld51 : tfld Tryz.prog 51 = true := by kernel_rfl
theorem tfld69 : tfld Tryz.prog 69 = true := by kernel_rfl
theorem tfld102 : tfld Tryz.prog 102 = true := by kernel_rfl
theorem tfld159 : tfld Tryz.prog 159 = true := by kernel_rfl
theorem tfld177 : tfld Tryz.prog 177 = true := by kernel_rfl
theorem tfld182 : tfld Tryz.prog 182 = true := by kernel_rfl
theorem foff24_0 : foff Tryz.prog 24 0 = some (0, 1) := by kernel_rfl
theorem foff28_0 : foff Tryz.prog 28 0 = some (0, 1) := by kernel_rfl
theorem foff28_1 : foff Tryz.prog 28 1 = some (1, 1) := by kernel_rfl
theorem foff28_2 : foff Tryz.prog 28 2 = some (2, 1) := by kernel_rfl
theorem foff31_0 : foff Tryz.prog 31 0 = some (0, 1) := by kernel_rfl
theorem foff31_1 : foff Tryz.prog 31 1 = some (1, 1) := by kernel_rfl
theorem foff33_0 : foff Tryz.prog 33 0 = some (0, 1) := by kernel_rfl
theorem foff33_1 : foff Tryz.prog 33 1 = some (1, 2) := by kernel_rfl
theorem foff33_2 : foff Tryz.prog 33 2 = some (3, 2) := by kernel_rfl
theorem foff38_0 : foff Tryz.prog 38 0 = some (0, 1) := by kernel_rfl
theorem foff38_1 : foff Tryz.prog 38 1 = some (1, 1) := by kernel_rfl
theorem foff38_2 : foff Tryz.prog 38 2 = some (2, 1) := by kernel_rfl
theorem foff43_0 : foff Tryz.prog 43 0 = some (0, 1) := by kernel_rfl
theorem foff47_0 : foff Tryz.prog 47 0 = some (0, 1) := by kernel_rfl
theorem foff47_1 : foff Tryz.prog 47 1 = some (1, 1) := by kernel_rfl
theorem foff47_2 : foff Tryz.prog 47 2 = some (2, 1) := by kernel_rfl
theorem foff49_0 : foff Tryz.prog 49 0 = some (0, 1) := by kernel_rfl
theorem foff49_1 : foff Tryz.prog 49 1 = some (1, 1) := by kernel_rfl
theorem foff51_0 : foff Tryz.prog 51 0 = some (0, 1) := by kernel_rfl
theorem foff51_1 : foff Tryz.prog 51 1 = some (1, 2) := by kernel_rfl
theorem foff51_2 : foff Tryz.prog 51 2 = some (3, 2) := by kernel_rfl
theorem foff69_0 : foff Tryz.prog 69 0 = some (0, 3) := by kernel_rfl
theorem foff69_1 : foff Tryz.prog 69 1 = some (3, 3) := by kernel_rfl
theorem foff102_0 : foff Tryz.prog 102 0 = some (0, 1) := by kernel_rfl
theorem foff102_1 : foff Tryz.prog 102 1 = some (1, 1) := by kernel_rfl
theorem foff153_0 : foff Tryz.prog 153 0 = some (0, 1) := by kernel_rfl
theorem foff153_1 : foff Tryz.prog 153 1 = some (1, 2) := by kernel_rfl
theorem foff155_0 : foff Tryz.prog 155 0 = some (0, 1) := by kernel_rfl
theorem foff155_1 : foff Tryz.prog 155 1 = some (1, 1) := by kernel_rfl
theorem foff159_0 : foff Tryz.prog 159 0 = some (0, 1) := by kernel_rfl
theorem foff159_1 : foff Tryz.prog 159 1 = some (1, 2) := by kernel_rfl
theorem foff177_0 : foff Tryz.prog 177 0 = some (0, 1) := by kernel_rfl
theorem foff177_1 : foff Tryz.prog 177 1 = some (1, 1) := by kernel_rfl
theorem foff177_2 : foff Tryz.prog 177 2 = some (2, 1) := by kernel_rfl
theorem foff182_0 : foff Tryz.prog 182 0 = some (0, 1) := by kernel_rfl
theorem foff182_1 : foff Tryz.prog 182 1 = some (1, 2) := by kernel_rfl
theorem fty49_1 : fty Tryz.prog 49 1 = some 29 := by kernel_rfl
attribute [simp] tsz3 tsz4 tsz5 tsz9 tsz22 tsz24 tsz25 tsz26 tsz28 tsz29 tsz31 tsz33 tsz38 tsz41 tsz43 tsz45 tsz47 tsz49 tsz51 tsz62 tsz69 tsz102 tsz153 tsz155 tsz159 tsz182 tagg3 tagg4 tagg5 tagg9 tagg22 tagg24 tagg25 tagg26 tagg28 tagg29 tagg31 tagg33 tagg38 tagg41 tagg43 tagg45 tagg47 tagg49 tagg51 tagg62 tagg69 tagg102 tagg153 tagg155 tagg159 tagg182 tzero3 tzero4 tzero26 tzero38 tzero43 tzero47 tzero49 tzero51 tzero69 tzero102 tzero159 tzero177 tzero182 tslice22 telem22 tslice25 telem25 tslice26 telem26 tslice29 telem29 tslice41 telem41 tslice45 telem45 tslice62 telem62 tslice82 telem82 tslice86 telem86 tslice99 telem99 tslice190 telem190 tstr9 tstr22 tstr25 tstr26 tstr29 tstr41 tstr45 tstr62 tstr82 tstr86 tstr190 tfld38 tfld43 tfld47 tfld49 tfld51 tfld69 tfld102 tfld159 tfld177 tfld182 foff24_0 foff28_0 foff28_1 foff28_2 foff31_0 foff31_1 foff33_0 foff33_1 foff33_2 foff38_0 foff38_1 foff38_2 foff43_0 foff47_0 foff47_1 foff47_2 foff49_0 foff49_1 foff51_0 foff51_1 foff51_2 foff69_0 foff69_1 foff102_0 foff102_1 foff153_0 foff153_1 foff155_0 foff155_1 foff159_0 foff159_1 foff177_0 foff177_1 foff177_2 foff182_0 foff182_1 fty49_1
end Go.Proofs.YtdnbigokdclclaaGreat


namespace Go.Proofs.YtdnbigokdclclaaGreat
open Go.Vs Go.Proofs Go

/-- the functions that write what they are handed -/
def E : Md := ⟨fun f => [19, 20, 21, 22, 73, 81, 82, 83, 84, 85, 89, 90, 95, 111, 112, 147, 148, 151, 159, 160, 161, 162, 175, 177, 178, 180, 185].contains f, false⟩
/-- as E; slices are known by elements only -/
def EP : Md := ⟨E.e, true⟩
@[simp] theorem E_p : E.p = false := Eq.trans rfl rfl
@[simp] theorem EP_p : EP.p = true := Eq.trans rfl rfl

theorem E19 : E 19 = true := rfl
theorem E20 : E 20 = true := rfl
theorem E21 : E 21 = true := rfl
theorem E22 : E 22 = true := rfl
theorem E73 : E 73 = true := rfl
theorem E81 : E 81 = true := rfl
theorem E82 : E 82 = true := rfl
theorem E83 : E 83 = true := rfl
theorem E84 : E 84 = true := rfl
theorem E85 : E 85 = true := rfl
/-- the orders of laws.FnExactAtomDelta -/
def s3 (i : Nat) : Tr := if i = 11 then .seq [0, 2, 4, 6] (.both (.seq [1] (.both (.seq [3] (.both (.seq [5] (.both (.seq [7, 8, 9, 10, 11, 12, 13] .nil) (.seq [11, 7, 8, 9, 10, 12, 13] .nil))) (.seq [11, 5, 7, 8, 9, 10, 12, 13] .nil))) (.seq [11, 3, 5, 7, 8, 9, 10, 12, 13] .nil))) (.seq [11, 1, 3, 5, 7, 8, 9, 10, 12, 13] .nil)) else if i = 18 then .seq [0, 1, 2, 3, 4] .nil else if i = 20 then .seq [0, 1, 2, 3, 4] .nil else if i = 22 then .seq [0, 1, 2, 3, 4] .nil else if i = 38 then .seq [0, 2, 4, 6] (.both (.seq [1] (.both (.seq [3] (.both (.seq [5] (.both (.seq [7, 8, 9, 10, 11, 12, 13] .nil) (.seq [11, 7, 8, 9, 10, 12, 13] .nil))) (.seq [11, 5, 7, 8, 9, 10, 12, 13] .nil))) (.seq [11, 3, 5, 7, 8, 9, 10, 12, 13] .nil))) (.seq [11, 1, 3, 5, 7, 8, 9, 10, 12, 13] .nil)) else .nil
theorem s3_11 : s3 11 = .seq [0, 2, 4, 6] (.both (.seq [1] (.both (.seq [3] (.both (.seq [5] (.both (.seq [7, 8, 9, 10, 11, 12, 13] .nil) (.seq [11, 7, 8, 9, 10, 12, 13] .nil))) (.seq [11, 5, 7, 8, 9, 10, 12, 13] .nil))) (.seq [11, 3, 5, 7, 8, 9, 10, 12, 13] .nil))) (.seq [11, 1, 3, 5, 7, 8, 9, 10, 12, 13] .nil)) := rfl
theorem s3_18 : s3 18 = .seq [0, 1, 2, 3, 4] .nil := rfl
theorem s3_20 : s3 20 = .seq [0, 1, 2, 3, 4] .nil := rfl
theorem s3_22 : s3 22 = .seq [0, 1, 2, 3, 4] .nil := rfl
theorem s3_38 : s3 38 = .seq [0, 2, 4, 6] (.both (.seq [1] (.both (.seq [3] (.both (.seq [5] (.both (.seq [7, 8, 9, 10, 11, 12, 13] .nil) (.seq [11, 7, 8, 9, 10, 12, 13] .nil))) (.seq [11, 5, 7, 8, 9, 10, 12, 13] .nil))) (.seq [11, 3, 5, 7, 8, 9, 10, 12, 13] .nil))) (.seq [11, 1, 3, 5, 7, 8, 9, 10, 12, 13] .nil)) := rfl
theorem s3_ok : okCode E 147 s3 (Tryz.f3.body.getD .skip) = true := by kernel_rfl
/-- the orders of laws.szDatabase -/
def s7 (_ : Nat) : Tr := .nil
theorem s7_ok : okCode E 12 s7 (Tryz.f7.body.getD .skip) = true := by kernel_rfl
/-- the orders of laws.szQuery -/
def s8 (_ : Nat) : Tr := .nil
theorem s8_ok : okCode E 18 s8 (Tryz.f8.body.getD .skip) = true := by kernel_rfl
/-- the orders of laws.szDelta -/
def s9 (_ : Nat) : Tr := .nil
theorem s9_ok : okCode E 25 s9 (Tryz.f9.body.getD .skip) = true := by kernel_rfl
/-- the orders of spec.AtomDelta -/
def s10 (i : Nat) : Tr := if i = 10 then .seq [0, 1, 2, 3, 4, 5, 6] (.both (.seq [7, 8, 9, 10, 11, 12, 13] .nil) (.seq [11, 7, 8, 9, 10, 12, 13] .nil)) else if i = 12 then .seq [0, 1, 2, 3, 4, 5, 6, 7, 8, 9, 10, 11] .nil else if i = 16 then .seq [0, 1, 2, 3, 4, 5, 6, 7, 8] .nil else if i = 19 then .seq [0, 1, 2, 3, 4, 5, 6, 7] .nil else if i = 30 then .seq [0, 1, 2, 3, 4, 5, 6, 7, 8, 9, 10] .nil else .nil
theorem s10_10 : s10 10 = .seq [0, 1, 2, 3, 4, 5, 6] (.both (.seq [7, 8, 9, 10, 11, 12, 13] .nil) (.seq [11, 7, 8, 9, 10, 12, 13] .nil)) := rfl
theorem s10_12 : s10 12 = .seq [0, 1, 2, 3, 4, 5, 6, 7, 8, 9, 10, 11] .nil := rfl
theorem s10_16 : s10 16 = .seq [0, 1, 2, 3, 4, 5, 6, 7, 8] .nil := rfl
theorem s10_19 : s10 19 = .seq [0, 1, 2, 3, 4, 5, 6, 7] .nil := rfl
theorem s10_30 : s10 30 = .seq [0, 1, 2, 3, 4, 5, 6, 7, 8, 9, 10] .nil := rfl
theorem s10_ok : okCode E 194 s10 (Tryz.f10.body.getD .skip) = true := by kernel_rfl
/-- the orders of laws.toDatabase -/
def s11 (_ : Nat) : Tr := .nil
theorem s11_ok : okCode E 9 s11 (Tryz.f11.body.getD .skip) = true := by kernel_rfl
/-- the orders of laws.toQuery -/
def s12 (_ : Nat) : Tr := .nil
theorem s12_ok : okCode E 16 s12 (Tryz.f12.body.getD .skip) = true := by kernel_rfl
/-- the orders of laws.toDelta -/
def s13 (_ : Nat) : Tr := .nil
theorem s13_ok : okCode E 16 s13 (Tryz.f13.body.getD .skip) = true := by kernel_rfl
/-- the orders of impl.AtomDelta -/
def s14 (i : Nat) : Tr := if i = 35 then .seq [0, 1, 2, 3, 4, 5, 6, 7, 8, 9, 10, 11, 12, 13, 14] .nil else if i = 44 then .seq [0, 1, 2, 4, 5, 6, 7, 3, 8] .nil else .nil
theorem s14_35 : s14 35 = .seq [0, 1, 2, 3, 4, 5, 6, 7, 8, 9, 10, 11, 12, 13, 14] .nil := rfl
theorem s14_44 : s14 44 = .seq [0, 1, 2, 4, 5, 6, 7, 3, 8] .nil := rfl
theorem s14_ok : okCode E 196 s14 (Tryz.f14.body.getD .skip) = true := by kernel_rfl
/-- the orders of laws.eqCountedRelation -/
def s15 (_ : Nat) : Tr := .nil
theorem s15_ok : okCode E 22 s15 (Tryz.f15.body.getD .skip) = true := by kernel_rfl
/-- the orders of laws.eqDatabase -/
def s16 (_ : Nat) : Tr := .nil
theorem s16_ok : okCode E 11 s16 (Tryz.f16.body.getD .skip) = true := by kernel_rfl
/-- the orders of laws.eqQuery -/
def s17 (_ : Nat) : Tr := .nil
theorem s17_ok : okCode E 22 s17 (Tryz.f17.body.getD .skip) = true := by kernel_rfl
/-- the orders of laws.eqDelta -/
def s18 (_ : Nat) : Tr := .nil
theorem s18_ok : okCode E 22 s18 (Tryz.f18.body.getD .skip) = true := by kernel_rfl
/-- the orders of laws.markDatabase -/
def s19 (_ : Nat) : Tr := .nil
theorem s19_ok : okCode E 10 s19 (Tryz.f19.body.getD .skip) = true := by kernel_rfl
/-- the orders of laws.markQuery -/
def s20 (_ : Nat) : Tr := .nil
theorem s20_ok : okCode E 14 s20 (Tryz.f20.body.getD .skip) = true := by kernel_rfl
/-- the orders of laws.markDelta -/
def s21 (_ : Nat) : Tr := .nil
theorem s21_ok : okCode E 14 s21 (Tryz.f21.body.getD .skip) = true := by kernel_rfl
/-- the orders of laws.markCountedRelation -/
def s22 (_ : Nat) : Tr := .nil
theorem s22_ok : okCode E 14 s22 (Tryz.f22.body.getD .skip) = true := by kernel_rfl
/-- the orders of laws.heldCountedRelation -/
def s23 (_ : Nat) : Tr := .nil
theorem s23_ok : okCode E 18 s23 (Tryz.f23.body.getD .skip) = true := by kernel_rfl
/-- the orders of spec.AddCounted -/
def s28 (i : Nat) : Tr := if i = 3 then .seq [0, 1, 3, 4, 6, 7, 10, 11, 13, 14] (.both (.seq [2] (.both (.app 5 [25, 31, 35, 38] (.both (.app 8 [25, 35, 38] (.both (.seq [9] (.both (.app 12 [25, 38] (.both (.app 15 [25] (.both (.seq [16, 17, 18, 19, 20, 21, 22] .nil) (.seq [20, 16, 17, 18, 19, 21, 22] .nil))) (.seq [20] (.app 15 [25] (.seq [16, 17, 18, 19, 21, 22] .nil))))) (.seq [20] (.app 12 [25, 38] (.app 15 [25] (.seq [16, 17, 18, 19, 21, 22] .nil)))))) (.seq [20, 9] (.app 12 [25, 38] (.app 15 [25] (.seq [16, 17, 18, 19, 21, 22] .nil)))))) (.both (.seq [9] (.both (.app 8 [25, 35, 38] (.both (.app 12 [25, 38] (.both (.app 15 [25] (.both (.seq [16, 17, 18, 19, 20, 21, 22] .nil) (.seq [20, 16, 17, 18, 19, 21, 22] .nil))) (.seq [20] (.app 15 [25] (.seq [16, 17, 18, 19, 21, 22] .nil))))) (.seq [20] (.app 12 [25, 38] (.app 15 [25] (.seq [16, 17, 18, 19, 21, 22] .nil)))))) (.seq [20] (.app 8 [25, 35, 38] (.app 12 [25, 38] (.app 15 [25] (.seq [16, 17, 18, 19, 21, 22] .nil))))))) (.seq [20] (.both (.app 8 [25, 35, 38] (.seq [9] (.app 12 [25, 38] (.app 15 [25] (.seq [16, 17, 18, 19, 21, 22] .nil))))) (.seq [9] (.app 8 [25, 35, 38] (.app 12 [25, 38] (.app 15 [25] (.seq [16, 17, 18, 19, 21, 22] .nil)))))))))) (.both (.seq [9] (.both (.app 5 [25, 31, 35, 38] (.both (.app 8 [25, 35, 38] (.both (.app 12 [25, 38] (.both (.app 15 [25] (.both (.seq [16, 17, 18, 19, 20, 21, 22] .nil) (.seq [20, 16, 17, 18, 19, 21, 22] .nil))) (.seq [20] (.app 15 [25] (.seq [16, 17, 18, 19, 21, 22] .nil))))) (.seq [20] (.app 12 [25, 38] (.app 15 [25] (.seq [16, 17, 18, 19, 21, 22] .nil)))))) (.seq [20] (.app 8 [25, 35, 38] (.app 12 [25, 38] (.app 15 [25] (.seq [16, 17, 18, 19, 21, 22] .nil))))))) (.seq [20] (.app 5 [25, 31, 35, 38] (.app 8 [25, 35, 38] (.app 12 [25, 38] (.app 15 [25] (.seq [16, 17, 18, 19, 21, 22] .nil)))))))) (.seq [20] (.both (.app 5 [25, 31, 35, 38] (.both (.app 8 [25, 35, 38] (.seq [9] (.app 12 [25, 38] (.app 15 [25] (.seq [16, 17, 18, 19, 21, 22] .nil))))) (.seq [9] (.app 8 [25, 35, 38] (.app 12 [25, 38] (.app 15 [25] (.seq [16, 17, 18, 19, 21, 22] .nil))))))) (.seq [9] (.app 5 [25, 31, 35, 38] (.app 8 [25, 35, 38] (.app 12 [25, 38] (.app 15 [25] (.seq [16, 17, 18, 19, 21, 22] .nil))))))))))) (.both (.seq [9] (.both (.seq [2] (.both (.app 5 [25, 31, 35, 38] (.both (.app 8 [25, 35, 38] (.both (.app 12 [25, 38] (.both (.app 15 [25] (.both (.seq [16, 17, 18, 19, 20, 21, 22] .nil) (.seq [20, 16, 17, 18, 19, 21, 22] .nil))) (.seq [20] (.app 15 [25] (.seq [16, 17, 18, 19, 21, 22] .nil))))) (.seq [20] (.app 12 [25, 38] (.app 15 [25] (.seq [16, 17, 18, 19, 21, 22] .nil)))))) (.seq [20] (.app 8 [25, 35, 38] (.app 12 [25, 38] (.app 15 [25] (.seq [16, 17, 18, 19, 21, 22] .nil))))))) (.seq [20] (.app 5 [25, 31, 35, 38] (.app 8 [25, 35, 38] (.app 12 [25, 38] (.app 15 [25] (.seq [16, 17, 18, 19, 21, 22] .nil)))))))) (.seq [20, 2] (.app 5 [25, 31, 35, 38] (.app 8 [25, 35, 38] (.app 12 [25, 38] (.app 15 [25] (.seq [16, 17, 18, 19, 21, 22] .nil)))))))) (.seq [20] (.both (.seq [2] (.both (.app 5 [25, 31, 35, 38] (.both (.app 8 [25, 35, 38] (.seq [9] (.app 12 [25, 38] (.app 15 [25] (.seq [16, 17, 18, 19, 21, 22] .nil))))) (.seq [9] (.app 8 [25, 35, 38] (.app 12 [25, 38] (.app 15 [25] (.seq [16, 17, 18, 19, 21, 22] .nil))))))) (.seq [9] (.app 5 [25, 31, 35, 38] (.app 8 [25, 35, 38] (.app 12 [25, 38] (.app 15 [25] (.seq [16, 17, 18, 19, 21, 22] .nil)))))))) (.seq [9, 2] (.app 5 [25, 31, 35, 38] (.app 8 [25, 35, 38] (.app 12 [25, 38] (.app 15 [25] (.seq [16, 17, 18, 19, 21, 22] .nil)))))))))) else .nil
theorem s28_3 : s28 3 = .seq [0, 1, 3, 4, 6, 7, 10, 11, 13, 14] (.both (.seq [2] (.both (.app 5 [25, 31, 35, 38] (.both (.app 8 [25, 35, 38] (.both (.seq [9] (.both (.app 12 [25, 38] (.both (.app 15 [25] (.both (.seq [16, 17, 18, 19, 20, 21, 22] .nil) (.seq [20, 16, 17, 18, 19, 21, 22] .nil))) (.seq [20] (.app 15 [25] (.seq [16, 17, 18, 19, 21, 22] .nil))))) (.seq [20] (.app 12 [25, 38] (.app 15 [25] (.seq [16, 17, 18, 19, 21, 22] .nil)))))) (.seq [20, 9] (.app 12 [25, 38] (.app 15 [25] (.seq [16, 17, 18, 19, 21, 22] .nil)))))) (.both (.seq [9] (.both (.app 8 [25, 35, 38] (.both (.app 12 [25, 38] (.both (.app 15 [25] (.both (.seq [16, 17, 18, 19, 20, 21, 22] .nil) (.seq [20, 16, 17, 18, 19, 21, 22] .nil))) (.seq [20] (.app 15 [25] (.seq [16, 17, 18, 19, 21, 22] .nil))))) (.seq [20] (.app 12 [25, 38] (.app 15 [25] (.seq [16, 17, 18, 19, 21, 22] .nil)))))) (.seq [20] (.app 8 [25, 35, 38] (.app 12 [25, 38] (.app 15 [25] (.seq [16, 17, 18, 19, 21, 22] .nil))))))) (.seq [20] (.both (.app 8 [25, 35, 38] (.seq [9] (.app 12 [25, 38] (.app 15 [25] (.seq [16, 17, 18, 19, 21, 22] .nil))))) (.seq [9] (.app 8 [25, 35, 38] (.app 12 [25, 38] (.app 15 [25] (.seq [16, 17, 18, 19, 21, 22] .nil)))))))))) (.both (.seq [9] (.both (.app 5 [25, 31, 35, 38] (.both (.app 8 [25, 35, 38] (.both (.app 12 [25, 38] (.both (.app 15 [25] (.both (.seq [16, 17, 18, 19, 20, 21, 22] .nil) (.seq [20, 16, 17, 18, 19, 21, 22] .nil))) (.seq [20] (.app 15 [25] (.seq [16, 17, 18, 19, 21, 22] .nil))))) (.seq [20] (.app 12 [25, 38] (.app 15 [25] (.seq [16, 17, 18, 19, 21, 22] .nil)))))) (.seq [20] (.app 8 [25, 35, 38] (.app 12 [25, 38] (.app 15 [25] (.seq [16, 17, 18, 19, 21, 22] .nil))))))) (.seq [20] (.app 5 [25, 31, 35, 38] (.app 8 [25, 35, 38] (.app 12 [25, 38] (.app 15 [25] (.seq [16, 17, 18, 19, 21, 22] .nil)))))))) (.seq [20] (.both (.app 5 [25, 31, 35, 38] (.both (.app 8 [25, 35, 38] (.seq [9] (.app 12 [25, 38] (.app 15 [25] (.seq [16, 17, 18, 19, 21, 22] .nil))))) (.seq [9] (.app 8 [25, 35, 38] (.app 12 [25, 38] (.app 15 [25] (.seq [16, 17, 18, 19, 21, 22] .nil))))))) (.seq [9] (.app 5 [25, 31, 35, 38] (.app 8 [25, 35, 38] (.app 12 [25, 38] (.app 15 [25] (.seq [16, 17, 18, 19, 21, 22] .nil))))))))))) (.both (.seq [9] (.both (.seq [2] (.both (.app 5 [25, 31, 35, 38] (.both (.app 8 [25, 35, 38] (.both (.app 12 [25, 38] (.both (.app 15 [25] (.both (.seq [16, 17, 18, 19, 20, 21, 22] .nil) (.seq [20, 16, 17, 18, 19, 21, 22] .nil))) (.seq [20] (.app 15 [25] (.seq [16, 17, 18, 19, 21, 22] .nil))))) (.seq [20] (.app 12 [25, 38] (.app 15 [25] (.seq [16, 17, 18, 19, 21, 22] .nil)))))) (.seq [20] (.app 8 [25, 35, 38] (.app 12 [25, 38] (.app 15 [25] (.seq [16, 17, 18, 19, 21, 22] .nil))))))) (.seq [20] (.app 5 [25, 31, 35, 38] (.app 8 [25, 35, 38] (.app 12 [25, 38] (.app 15 [25] (.seq [16, 17, 18, 19, 21, 22] .nil)))))))) (.seq [20, 2] (.app 5 [25, 31, 35, 38] (.app 8 [25, 35, 38] (.app 12 [25, 38] (.app 15 [25] (.seq [16, 17, 18, 19, 21, 22] .nil)))))))) (.seq [20] (.both (.seq [2] (.both (.app 5 [25, 31, 35, 38] (.both (.app 8 [25, 35, 38] (.seq [9] (.app 12 [25, 38] (.app 15 [25] (.seq [16, 17, 18, 19, 21, 22] .nil))))) (.seq [9] (.app 8 [25, 35, 38] (.app 12 [25, 38] (.app 15 [25] (.seq [16, 17, 18, 19, 21, 22] .nil))))))) (.seq [9] (.app 5 [25, 31, 35, 38] (.app 8 [25, 35, 38] (.app 12 [25, 38] (.app 15 [25] (.seq [16, 17, 18, 19, 21, 22] .nil)))))))) (.seq [9, 2] (.app 5 [25, 31, 35, 38] (.app 8 [25, 35, 38] (.app 12 [25, 38] (.app 15 [25] (.seq [16, 17, 18, 19, 21, 22] .nil)))))))))) := rfl
theorem s28_ok : okCode E 46 s28 (Tryz.f28.body.getD .skip) = true := by kernel_rfl
/-- the orders of spec.ApplyDelta -/
def s34 (_ : Nat) : Tr := .nil
theorem s34_ok : okCode E 61 s34 (Tryz.f34.body.getD .skip) = true := by kernel_rfl
/-- the orders of laws.szTableS -/
def s46 (_ : Nat) : Tr := .nil
theorem s46_ok : okCode E 27 s46 (Tryz.f46.body.getD .skip) = true := by kernel_rfl
/-- the orders of laws.szAtomS -/
def s47 (_ : Nat) : Tr := .nil
theorem s47_ok : okCode E 27 s47 (Tryz.f47.body.getD .skip) = true := by kernel_rfl
/-- the orders of laws.szIntS -/
def s48 (_ : Nat) : Tr := .nil
theorem s48_ok : okCode E 12 s48 (Tryz.f48.body.getD .skip) = true := by kernel_rfl
/-- the orders of laws.szRelation -/
def s49 (_ : Nat) : Tr := .nil
theorem s49_ok : okCode E 12 s49 (Tryz.f49.body.getD .skip) = true := by kernel_rfl
/-- the orders of spec.NormalizeDelta -/
def s50 (_ : Nat) : Tr := .nil
theorem s50_ok : okCode E 60 s50 (Tryz.f50.body.getD .skip) = true := by kernel_rfl
/-- the orders of spec.IsQueryFor -/
def s51 (i : Nat) : Tr := if i = 4 then .seq [0, 1, 2, 3, 4, 5, 6] (.both (.seq [7, 8, 9, 10, 11, 12, 13] .nil) (.seq [11, 7, 8, 9, 10, 12, 13] .nil)) else if i = 5 then .seq [0, 1, 2, 3, 4, 5, 6, 7, 8, 9, 10, 11, 12, 13] .nil else .nil
theorem s51_4 : s51 4 = .seq [0, 1, 2, 3, 4, 5, 6] (.both (.seq [7, 8, 9, 10, 11, 12, 13] .nil) (.seq [11, 7, 8, 9, 10, 12, 13] .nil)) := rfl
theorem s51_5 : s51 5 = .seq [0, 1, 2, 3, 4, 5, 6, 7, 8, 9, 10, 11, 12, 13] .nil := rfl
theorem s51_ok : okCode E 46 s51 (Tryz.f51.body.getD .skip) = true := by kernel_rfl
/-- the orders of spec.l1In -/
def s52 (_ : Nat) : Tr := .nil
theorem s52_ok : okCode E 15 s52 (Tryz.f52.body.getD .skip) = true := by kernel_rfl
/-- the orders of spec.LookupRelation -/
def s53 (_ : Nat) : Tr := .nil
theorem s53_ok : okCode E 34 s53 (Tryz.f53.body.getD .skip) = true := by kernel_rfl
/-- the orders of spec.CountedFromRelation -/
def s54 (_ : Nat) : Tr := .nil
theorem s54_ok : okCode E 31 s54 (Tryz.f54.body.getD .skip) = true := by kernel_rfl
/-- the orders of spec.NegateCounted -/
def s55 (i : Nat) : Tr := if i = 6 then .seq [0, 1, 2, 3, 4, 5, 6, 7, 8, 9, 10, 11] .nil else .nil
theorem s55_6 : s55 6 = .seq [0, 1, 2, 3, 4, 5, 6, 7, 8, 9, 10, 11] .nil := rfl
theorem s55_ok : okCode E 34 s55 (Tryz.f55.body.getD .skip) = true := by kernel_rfl
/-- the orders of spec.l28Walk -/
def s56 (i : Nat) : Tr := if i = 14 then .seq [0, 1, 2, 3, 4, 5, 6, 7, 8, 9, 10, 11, 12, 13, 14, 15, 16, 17, 18, 19, 20, 21, 22] .nil else if i = 17 then .seq [0, 1, 2, 3, 4, 5, 6, 7, 8, 9, 10, 11, 12, 13, 14, 15, 16, 17, 18, 19, 20] .nil else .nil
theorem s56_14 : s56 14 = .seq [0, 1, 2, 3, 4, 5, 6, 7, 8, 9, 10, 11, 12, 13, 14, 15, 16, 17, 18, 19, 20, 21, 22] .nil := rfl
theorem s56_17 : s56 17 = .seq [0, 1, 2, 3, 4, 5, 6, 7, 8, 9, 10, 11, 12, 13, 14, 15, 16, 17, 18, 19, 20] .nil := rfl
theorem s56_ok : okCode E 134 s56 (Tryz.f56.body.getD .skip) = true := by kernel_rfl
/-- the orders of spec.l5Cols -/
def s57 (_ : Nat) : Tr := .nil
theorem s57_ok : okCode E 25 s57 (Tryz.f57.body.getD .skip) = true := by kernel_rfl
/-- the orders of spec.l27Sum -/
def s58 (i : Nat) : Tr := if i = 8 then .seq [0, 1, 2, 3, 4, 5, 6, 7, 8, 9, 10] .nil else if i = 9 then .seq [0, 1, 2, 3, 4, 5, 6, 7, 8, 9, 10, 11, 12] .nil else if i = 15 then .seq [0, 1, 2, 3, 4, 5, 6, 7, 8, 9, 10] .nil else if i = 16 then .seq [0, 1, 2, 3, 4, 5, 6, 7, 8, 9] .nil else .nil
theorem s58_8 : s58 8 = .seq [0, 1, 2, 3, 4, 5, 6, 7, 8, 9, 10] .nil := rfl
theorem s58_9 : s58 9 = .seq [0, 1, 2, 3, 4, 5, 6, 7, 8, 9, 10, 11, 12] .nil := rfl
theorem s58_15 : s58 15 = .seq [0, 1, 2, 3, 4, 5, 6, 7, 8, 9, 10] .nil := rfl
theorem s58_16 : s58 16 = .seq [0, 1, 2, 3, 4, 5, 6, 7, 8, 9] .nil := rfl
theorem s58_ok : okCode E 94 s58 (Tryz.f58.body.getD .skip) = true := by kernel_rfl
/-- the orders of laws.toTableS -/
def s59 (_ : Nat) : Tr := .nil
theorem s59_ok : okCode E 23 s59 (Tryz.f59.body.getD .skip) = true := by kernel_rfl
/-- the orders of laws.toAtomS -/
def s60 (_ : Nat) : Tr := .nil
theorem s60_ok : okCode E 23 s60 (Tryz.f60.body.getD .skip) = true := by kernel_rfl
/-- the orders of laws.toIntS -/
def s61 (_ : Nat) : Tr := .nil
theorem s61_ok : okCode E 22 s61 (Tryz.f61.body.getD .skip) = true := by kernel_rfl
/-- the orders of laws.toRelation -/
def s62 (_ : Nat) : Tr := .nil
theorem s62_ok : okCode E 12 s62 (Tryz.f62.body.getD .skip) = true := by kernel_rfl
/-- the orders of impl.ApplyDelta -/
def s63 (_ : Nat) : Tr := .nil
theorem s63_ok : okCode E 56 s63 (Tryz.f63.body.getD .skip) = true := by kernel_rfl
/-- the orders of impl.IsQueryFor -/
def s64 (_ : Nat) : Tr := .nil
theorem s64_ok : okCode E 42 s64 (Tryz.f64.body.getD .skip) = true := by kernel_rfl
/-- the orders of impl.within -/
def s65 (_ : Nat) : Tr := .nil
theorem s65_ok : okCode E 15 s65 (Tryz.f65.body.getD .skip) = true := by kernel_rfl
/-- the orders of impl.NormalizeDelta -/
def s66 (i : Nat) : Tr := if i = 9 then .seq [0, 1, 2, 3, 4, 5, 6, 7, 8, 9] .nil else if i = 15 then .seq [0, 1, 2, 3, 4, 5, 6, 7, 8, 9] .nil else .nil
theorem s66_9 : s66 9 = .seq [0, 1, 2, 3, 4, 5, 6, 7, 8, 9] .nil := rfl
theorem s66_15 : s66 15 = .seq [0, 1, 2, 3, 4, 5, 6, 7, 8, 9] .nil := rfl
theorem s66_ok : okCode E 82 s66 (Tryz.f66.body.getD .skip) = true := by kernel_rfl
/-- the orders of impl.AtomBindings -/
def s67 (i : Nat) : Tr := if i = 16 then .seq [0, 1, 2, 3, 4, 5, 6, 7, 8, 9, 10, 11, 12] .nil else .nil
theorem s67_16 : s67 16 = .seq [0, 1, 2, 3, 4, 5, 6, 7, 8, 9, 10, 11, 12] .nil := rfl
theorem s67_ok : okCode E 98 s67 (Tryz.f67.body.getD .skip) = true := by kernel_rfl
/-- the orders of impl.rowsOfAtom -/
def s68 (i : Nat) : Tr := if i = 11 then .seq [0, 1, 2, 3, 4, 5, 9, 10, 11, 12, 6, 7, 8, 13, 14, 15] .nil else .nil
theorem s68_11 : s68 11 = .seq [0, 1, 2, 3, 4, 5, 9, 10, 11, 12, 6, 7, 8, 13, 14, 15] .nil := rfl
theorem s68_ok : okCode E 62 s68 (Tryz.f68.body.getD .skip) = true := by kernel_rfl
/-- the orders of impl.unite -/
def s69 (i : Nat) : Tr := if i = 9 then .seq [0, 1, 2, 4, 7, 8, 9] (.both (.seq [3, 5, 6, 10, 11] .nil) (.seq [5, 3, 6, 10, 11] .nil)) else .nil
theorem s69_9 : s69 9 = .seq [0, 1, 2, 4, 7, 8, 9] (.both (.seq [3, 5, 6, 10, 11] .nil) (.seq [5, 3, 6, 10, 11] .nil)) := rfl
theorem s69_ok : okCode E 56 s69 (Tryz.f69.body.getD .skip) = true := by kernel_rfl
/-- the orders of impl.AtomVariables -/
def s70 (_ : Nat) : Tr := .nil
theorem s70_ok : okCode E 17 s70 (Tryz.f70.body.getD .skip) = true := by kernel_rfl
/-- the orders of impl.glue -/
def s71 (i : Nat) : Tr := if i = 7 then .seq [0, 1, 2, 3, 4, 5, 6, 7, 8, 9, 10, 11, 12, 13, 14, 15, 16, 17] .nil else .nil
theorem s71_7 : s71 7 = .seq [0, 1, 2, 3, 4, 5, 6, 7, 8, 9, 10, 11, 12, 13, 14, 15, 16, 17] .nil := rfl
theorem s71_ok : okCode E 67 s71 (Tryz.f71.body.getD .skip) = true := by kernel_rfl
/-- the orders of impl.bit -/
def s72 (_ : Nat) : Tr := .nil
theorem s72_ok : okCode E 4 s72 (Tryz.f72.body.getD .skip) = true := by kernel_rfl
/-- the orders of impl.tally -/
def s73 (i : Nat) : Tr := if i = 3 then .seq [0, 2, 3, 4, 5, 6, 7, 9, 13, 14, 15, 16, 17, 18, 1] (.app 8 [43] (.seq [10, 11] (.app 12 [43] (.seq [19, 20, 21, 22] .nil)))) else if i = 4 then .seq [0, 1, 2, 3, 4, 5, 6, 8, 11, 12, 13, 14, 15, 16] (.both (.seq [7, 9] (.app 10 [63] (.seq [17, 18, 19, 20] .nil))) (.seq [9, 7] (.app 10 [63] (.seq [17, 18, 19, 20] .nil)))) else .nil
theorem s73_3 : s73 3 = .seq [0, 2, 3, 4, 5, 6, 7, 9, 13, 14, 15, 16, 17, 18, 1] (.app 8 [43] (.seq [10, 11] (.app 12 [43] (.seq [19, 20, 21, 22] .nil)))) := rfl
theorem s73_4 : s73 4 = .seq [0, 1, 2, 3, 4, 5, 6, 8, 11, 12, 13, 14, 15, 16] (.both (.seq [7, 9] (.app 10 [63] (.seq [17, 18, 19, 20] .nil))) (.seq [9, 7] (.app 10 [63] (.seq [17, 18, 19, 20] .nil)))) := rfl
theorem s73_ok : okCode E 70 s73 (Tryz.f73.body.getD .skip) = true := by kernel_rfl
/-- the orders of impl.pick -/
def s74 (_ : Nat) : Tr := .nil
theorem s74_ok : okCode E 24 s74 (Tryz.f74.body.getD .skip) = true := by kernel_rfl
/-- the orders of impl.settled -/
def s75 (i : Nat) : Tr := if i = 6 then .seq [0, 1, 2, 3, 4, 5, 6, 7, 8, 9, 10] .nil else .nil
theorem s75_6 : s75 6 = .seq [0, 1, 2, 3, 4, 5, 6, 7, 8, 9, 10] .nil := rfl
theorem s75_ok : okCode E 37 s75 (Tryz.f75.body.getD .skip) = true := by kernel_rfl
/-- the orders of laws.eqIntSS -/
def s76 (i : Nat) : Tr := if i = 6 then .seq [0, 1, 2, 3, 4, 5, 6, 7, 8, 9] .nil else .nil
theorem s76_6 : s76 6 = .seq [0, 1, 2, 3, 4, 5, 6, 7, 8, 9] .nil := rfl
theorem s76_ok : okCode E 27 s76 (Tryz.f76.body.getD .skip) = true := by kernel_rfl
/-- the orders of laws.eqIntS -/
def s77 (i : Nat) : Tr := if i = 6 then .seq [0, 1, 2, 3, 4, 5, 6, 7, 8] .nil else .nil
theorem s77_6 : s77 6 = .seq [0, 1, 2, 3, 4, 5, 6, 7, 8] .nil := rfl
theorem s77_ok : okCode E 26 s77 (Tryz.f77.body.getD .skip) = true := by kernel_rfl
/-- the orders of laws.eqTableS -/
def s78 (i : Nat) : Tr := if i = 6 then .seq [0, 1, 2, 3, 4, 5, 6, 7, 8, 9] .nil else .nil
theorem s78_6 : s78 6 = .seq [0, 1, 2, 3, 4, 5, 6, 7, 8, 9] .nil := rfl
theorem s78_ok : okCode E 27 s78 (Tryz.f78.body.getD .skip) = true := by kernel_rfl
/-- the orders of laws.eqAtomS -/
def s79 (i : Nat) : Tr := if i = 6 then .seq [0, 1, 2, 3, 4, 5, 6, 7, 8, 9] .nil else .nil
theorem s79_6 : s79 6 = .seq [0, 1, 2, 3, 4, 5, 6, 7, 8, 9] .nil := rfl
theorem s79_ok : okCode E 27 s79 (Tryz.f79.body.getD .skip) = true := by kernel_rfl
/-- the orders of laws.eqRelation -/
def s80 (_ : Nat) : Tr := .nil
theorem s80_ok : okCode E 16 s80 (Tryz.f80.body.getD .skip) = true := by kernel_rfl
/-- the orders of laws.markTableS -/
def s81 (_ : Nat) : Tr := .nil
theorem s81_ok : okCode E 37 s81 (Tryz.f81.body.getD .skip) = true := by kernel_rfl
/-- the orders of laws.markAtomS -/
def s82 (_ : Nat) : Tr := .nil
theorem s82_ok : okCode E 28 s82 (Tryz.f82.body.getD .skip) = true := by kernel_rfl
/-- the orders of laws.markIntS -/
def s83 (_ : Nat) : Tr := .nil
theorem s83_ok : okCode E 19 s83 (Tryz.f83.body.getD .skip) = true := by kernel_rfl
/-- the orders of laws.markRelation -/
def s84 (_ : Nat) : Tr := .nil
theorem s84_ok : okCode E 10 s84 (Tryz.f84.body.getD .skip) = true := by kernel_rfl
/-- the orders of laws.markIntSS -/
def s85 (_ : Nat) : Tr := .nil
theorem s85_ok : okCode E 19 s85 (Tryz.f85.body.getD .skip) = true := by kernel_rfl
/-- the orders of laws.heldIntSS -/
def s86 (_ : Nat) : Tr := .nil
theorem s86_ok : okCode E 21 s86 (Tryz.f86.body.getD .skip) = true := by kernel_rfl
/-- the orders of laws.heldIntS -/
def s87 (_ : Nat) : Tr := .nil
theorem s87_ok : okCode E 21 s87 (Tryz.f87.body.getD .skip) = true := by kernel_rfl
/-- the orders of spec.CompareRows -/
def s91 (i : Nat) : Tr := if i = 4 then .seq [0, 1, 2, 3, 4, 5, 6, 7, 8] .nil else if i = 6 then .seq [0, 1, 2, 3, 4, 5, 6, 7, 8] .nil else .nil
theorem s91_4 : s91 4 = .seq [0, 1, 2, 3, 4, 5, 6, 7, 8] .nil := rfl
theorem s91_6 : s91 6 = .seq [0, 1, 2, 3, 4, 5, 6, 7, 8] .nil := rfl
theorem s91_ok : okCode E 46 s91 (Tryz.f91.body.getD .skip) = true := by kernel_rfl
/-- the orders of spec.IsValidCounted -/
def s94 (_ : Nat) : Tr := .nil
theorem s94_ok : okCode E 42 s94 (Tryz.f94.body.getD .skip) = true := by kernel_rfl
/-- the orders of spec.l6Copy -/
def s101 (i : Nat) : Tr := if i = 6 then .seq [0, 1, 2, 3, 4, 5, 6, 7, 8, 9, 10, 11, 12, 13] .nil else .nil
theorem s101_6 : s101 6 = .seq [0, 1, 2, 3, 4, 5, 6, 7, 8, 9, 10, 11, 12, 13] .nil := rfl
theorem s101_ok : okCode E 35 s101 (Tryz.f101.body.getD .skip) = true := by kernel_rfl
/-- the orders of spec.Difference -/
def s102 (i : Nat) : Tr := if i = 7 then .seq [0, 1, 2, 3, 4, 5, 6, 7, 8, 9, 10, 11] .nil else if i = 9 then .seq [0, 1, 3, 4, 5, 6, 7, 2] (.app 8 [48] (.seq [9, 10, 11, 12] .nil)) else .nil
theorem s102_7 : s102 7 = .seq [0, 1, 2, 3, 4, 5, 6, 7, 8, 9, 10, 11] .nil := rfl
theorem s102_9 : s102 9 = .seq [0, 1, 3, 4, 5, 6, 7, 2] (.app 8 [48] (.seq [9, 10, 11, 12] .nil)) := rfl
theorem s102_ok : okCode E 61 s102 (Tryz.f102.body.getD .skip) = true := by kernel_rfl
/-- the orders of spec.Union -/
def s103 (i : Nat) : Tr := if i = 3 then .seq [0, 1, 3, 4, 6, 7] (.both (.seq [2] (.both (.app 5 [25, 31] (.both (.app 8 [25] (.both (.seq [9, 10, 11, 12, 13, 14, 15] .nil) (.seq [13, 9, 10, 11, 12, 14, 15] .nil))) (.seq [13] (.app 8 [25] (.seq [9, 10, 11, 12, 14, 15] .nil))))) (.seq [13] (.app 5 [25, 31] (.app 8 [25] (.seq [9, 10, 11, 12, 14, 15] .nil)))))) (.seq [13, 2] (.app 5 [25, 31] (.app 8 [25] (.seq [9, 10, 11, 12, 14, 15] .nil))))) else .nil
theorem s103_3 : s103 3 = .seq [0, 1, 3, 4, 6, 7] (.both (.seq [2] (.both (.app 5 [25, 31] (.both (.app 8 [25] (.both (.seq [9, 10, 11, 12, 13, 14, 15] .nil) (.seq [13, 9, 10, 11, 12, 14, 15] .nil))) (.seq [13] (.app 8 [25] (.seq [9, 10, 11, 12, 14, 15] .nil))))) (.seq [13] (.app 5 [25, 31] (.app 8 [25] (.seq [9, 10, 11, 12, 14, 15] .nil)))))) (.seq [13, 2] (.app 5 [25, 31] (.app 8 [25] (.seq [9, 10, 11, 12, 14, 15] .nil))))) := rfl
theorem s103_ok : okCode E 39 s103 (Tryz.f103.body.getD .skip) = true := by kernel_rfl
/-- the orders of spec.SetRelation -/
def s104 (_ : Nat) : Tr := .nil
theorem s104_ok : okCode E 73 s104 (Tryz.f104.body.getD .skip) = true := by kernel_rfl
/-- the orders of spec.IsValidDatabase -/
def s116 (i : Nat) : Tr := if i = 5 then .seq [0, 1, 2, 3, 4, 5, 6, 7, 8, 9, 10, 11, 12, 13, 14, 15, 16, 17, 18, 19, 20, 21, 22, 23, 24, 25, 26, 27, 28, 29, 30, 31, 32, 33, 34, 35, 36, 37, 38] .nil else .nil
theorem s116_5 : s116 5 = .seq [0, 1, 2, 3, 4, 5, 6, 7, 8, 9, 10, 11, 12, 13, 14, 15, 16, 17, 18, 19, 20, 21, 22, 23, 24, 25, 26, 27, 28, 29, 30, 31, 32, 33, 34, 35, 36, 37, 38] .nil := rfl
theorem s116_ok : okCode E 60 s116 (Tryz.f116.body.getD .skip) = true := by kernel_rfl
/-- the orders of laws.szTable -/
def s117 (_ : Nat) : Tr := .nil
theorem s117_ok : okCode E 19 s117 (Tryz.f117.body.getD .skip) = true := by kernel_rfl
/-- the orders of laws.szAtom -/
def s118 (_ : Nat) : Tr := .nil
theorem s118_ok : okCode E 19 s118 (Tryz.f118.body.getD .skip) = true := by kernel_rfl
/-- the orders of laws.szIntSS -/
def s119 (_ : Nat) : Tr := .nil
theorem s119_ok : okCode E 27 s119 (Tryz.f119.body.getD .skip) = true := by kernel_rfl
/-- the orders of spec.l26Fits -/
def s120 (_ : Nat) : Tr := .nil
theorem s120_ok : okCode E 41 s120 (Tryz.f120.body.getD .skip) = true := by kernel_rfl
/-- the orders of spec.IsValidQuery -/
def s121 (i : Nat) : Tr := if i = 11 then .seq [0, 1, 2, 3, 4, 5, 6, 7, 8, 9, 10, 11, 12, 13] .nil else if i = 26 then .seq [0, 1, 2, 3, 4, 5, 6, 7, 8, 9, 10, 11, 12, 13, 14, 15, 16, 17, 18, 19, 20, 21, 22] .nil else .nil
theorem s121_11 : s121 11 = .seq [0, 1, 2, 3, 4, 5, 6, 7, 8, 9, 10, 11, 12, 13] .nil := rfl
theorem s121_26 : s121 26 = .seq [0, 1, 2, 3, 4, 5, 6, 7, 8, 9, 10, 11, 12, 13, 14, 15, 16, 17, 18, 19, 20, 21, 22] .nil := rfl
theorem s121_ok : okCode E 134 s121 (Tryz.f121.body.getD .skip) = true := by kernel_rfl
/-- the orders of spec.l5Copy -/
def s122 (i : Nat) : Tr := if i = 5 then .seq [0, 1, 3, 4, 5, 6, 7, 2] (.app 8 [15] (.seq [9, 10, 11, 12] .nil)) else .nil
theorem s122_5 : s122 5 = .seq [0, 1, 3, 4, 5, 6, 7, 2] (.app 8 [15] (.seq [9, 10, 11, 12] .nil)) := rfl
theorem s122_ok : okCode E 28 s122 (Tryz.f122.body.getD .skip) = true := by kernel_rfl
/-- the orders of spec.IsValidRelation -/
def s123 (i : Nat) : Tr := if i = 6 then .seq [0, 1, 2, 3, 4, 5, 6, 7, 8, 9, 10, 11, 12, 13, 14, 15, 16, 17, 18, 19, 20, 21, 22, 23, 24, 25, 26, 27, 28, 29, 30, 31, 32, 33, 34, 35, 36] .nil else .nil
theorem s123_6 : s123 6 = .seq [0, 1, 2, 3, 4, 5, 6, 7, 8, 9, 10, 11, 12, 13, 14, 15, 16, 17, 18, 19, 20, 21, 22, 23, 24, 25, 26, 27, 28, 29, 30, 31, 32, 33, 34, 35, 36] .nil := rfl
theorem s123_ok : okCode E 58 s123 (Tryz.f123.body.getD .skip) = true := by kernel_rfl
/-- the orders of spec.NewRelation -/
def s124 (_ : Nat) : Tr := .nil
theorem s124_ok : okCode E 40 s124 (Tryz.f124.body.getD .skip) = true := by kernel_rfl
/-- the orders of spec.l5Place -/
def s125 (_ : Nat) : Tr := .nil
theorem s125_ok : okCode E 46 s125 (Tryz.f125.body.getD .skip) = true := by kernel_rfl
/-- the orders of laws.toTable -/
def s126 (_ : Nat) : Tr := .nil
theorem s126_ok : okCode E 12 s126 (Tryz.f126.body.getD .skip) = true := by kernel_rfl
/-- the orders of laws.toAtom -/
def s127 (_ : Nat) : Tr := .nil
theorem s127_ok : okCode E 12 s127 (Tryz.f127.body.getD .skip) = true := by kernel_rfl
/-- the orders of laws.toIntSS -/
def s128 (_ : Nat) : Tr := .nil
theorem s128_ok : okCode E 23 s128 (Tryz.f128.body.getD .skip) = true := by kernel_rfl
/-- the orders of impl.copyDatabase -/
def s129 (i : Nat) : Tr := if i = 5 then .seq [0, 1, 2, 3, 4, 5, 6, 7, 8, 9, 10, 11] .nil else .nil
theorem s129_5 : s129 5 = .seq [0, 1, 2, 3, 4, 5, 6, 7, 8, 9, 10, 11] .nil := rfl
theorem s129_ok : okCode E 26 s129 (Tryz.f129.body.getD .skip) = true := by kernel_rfl
/-- the orders of impl.LookupRelation -/
def s130 (_ : Nat) : Tr := .nil
theorem s130_ok : okCode E 26 s130 (Tryz.f130.body.getD .skip) = true := by kernel_rfl
/-- the orders of impl.Difference -/
def s131 (i : Nat) : Tr := if i = 8 then .seq [0, 1, 2, 3, 4, 5, 6, 7] .nil else .nil
theorem s131_8 : s131 8 = .seq [0, 1, 2, 3, 4, 5, 6, 7] .nil := rfl
theorem s131_ok : okCode E 48 s131 (Tryz.f131.body.getD .skip) = true := by kernel_rfl
/-- the orders of impl.Union -/
def s132 (i : Nat) : Tr := if i = 3 then .seq [0, 1, 2, 3, 5, 6, 4] (.app 7 [22] (.seq [8, 9, 10, 11, 12] .nil)) else .nil
theorem s132_3 : s132 3 = .seq [0, 1, 2, 3, 5, 6, 4] (.app 7 [22] (.seq [8, 9, 10, 11, 12] .nil)) := rfl
theorem s132_ok : okCode E 33 s132 (Tryz.f132.body.getD .skip) = true := by kernel_rfl
/-- the orders of impl.SetRelation -/
def s133 (i : Nat) : Tr := if i = 10 then .seq [1, 2, 3, 4, 6, 9, 10, 11, 12] (.both (.seq [0] (.both (.app 5 [10, 68] (.seq [7] (.app 8 [68] (.seq [13, 14, 15] .nil)))) (.seq [7] (.app 5 [10, 68] (.app 8 [68] (.seq [13, 14, 15] .nil)))))) (.seq [7, 0] (.app 5 [10, 68] (.app 8 [68] (.seq [13, 14, 15] .nil))))) else .nil
theorem s133_10 : s133 10 = .seq [1, 2, 3, 4, 6, 9, 10, 11, 12] (.both (.seq [0] (.both (.app 5 [10, 68] (.seq [7] (.app 8 [68] (.seq [13, 14, 15] .nil)))) (.seq [7] (.app 5 [10, 68] (.app 8 [68] (.seq [13, 14, 15] .nil)))))) (.seq [7, 0] (.app 5 [10, 68] (.app 8 [68] (.seq [13, 14, 15] .nil))))) := rfl
theorem s133_ok : okCode E 80 s133 (Tryz.f133.body.getD .skip) = true := by kernel_rfl
/-- the orders of impl.IsValidQuery -/
def s134 (_ : Nat) : Tr := .nil
theorem s134_ok : okCode E 76 s134 (Tryz.f134.body.getD .skip) = true := by kernel_rfl
/-- the orders of impl.IsValidDatabase -/
def s135 (i : Nat) : Tr := if i = 6 then .seq [0, 1, 2, 3, 4, 5, 6, 7, 8, 9, 10, 11, 12, 13, 14, 15, 16, 17, 18, 19, 20, 21, 22, 23, 24, 25, 26, 27, 28, 29, 30, 31, 32, 33, 34, 35, 36, 37, 38] .nil else .nil
theorem s135_6 : s135 6 = .seq [0, 1, 2, 3, 4, 5, 6, 7, 8, 9, 10, 11, 12, 13, 14, 15, 16, 17, 18, 19, 20, 21, 22, 23, 24, 25, 26, 27, 28, 29, 30, 31, 32, 33, 34, 35, 36, 37, 38] .nil := rfl
theorem s135_ok : okCode E 57 s135 (Tryz.f135.body.getD .skip) = true := by kernel_rfl
/-- the orders of impl.applicable -/
def s136 (i : Nat) : Tr := if i = 3 then .seq [0, 1, 2, 3, 4, 5, 6, 7, 8, 9, 10, 11, 12, 14] (.both (.seq [13] (.both (.seq [15, 16, 17, 18, 19] .nil) (.seq [18, 15, 16, 17, 19] .nil))) (.both (.seq [15] (.both (.seq [13, 16, 17, 18, 19] .nil) (.seq [18, 13, 16, 17, 19] .nil))) (.seq [18, 13, 15, 16, 17, 19] .nil))) else .nil
theorem s136_3 : s136 3 = .seq [0, 1, 2, 3, 4, 5, 6, 7, 8, 9, 10, 11, 12, 14] (.both (.seq [13] (.both (.seq [15, 16, 17, 18, 19] .nil) (.seq [18, 15, 16, 17, 19] .nil))) (.both (.seq [15] (.both (.seq [13, 16, 17, 18, 19] .nil) (.seq [18, 13, 16, 17, 19] .nil))) (.seq [18, 13, 15, 16, 17, 19] .nil))) := rfl
theorem s136_ok : okCode E 44 s136 (Tryz.f136.body.getD .skip) = true := by kernel_rfl
/-- the orders of impl.ContainsRow -/
def s137 (_ : Nat) : Tr := .nil
theorem s137_ok : okCode E 19 s137 (Tryz.f137.body.getD .skip) = true := by kernel_rfl
/-- the orders of impl.copyInts -/
def s138 (_ : Nat) : Tr := .nil
theorem s138_ok : okCode E 6 s138 (Tryz.f138.body.getD .skip) = true := by kernel_rfl
/-- the orders of impl.columnsFit -/
def s139 (_ : Nat) : Tr := .nil
theorem s139_ok : okCode E 22 s139 (Tryz.f139.body.getD .skip) = true := by kernel_rfl
/-- the orders of impl.indexOf -/
def s140 (_ : Nat) : Tr := .nil
theorem s140_ok : okCode E 19 s140 (Tryz.f140.body.getD .skip) = true := by kernel_rfl
/-- the orders of impl.sorted -/
def s141 (i : Nat) : Tr := if i = 4 then .seq [0, 1, 2, 4, 5, 6, 3, 7, 8, 9] .nil else if i = 11 then .seq [0, 1, 2, 3, 4, 5, 6, 7] .nil else .nil
theorem s141_4 : s141 4 = .seq [0, 1, 2, 4, 5, 6, 3, 7, 8, 9] .nil := rfl
theorem s141_11 : s141 11 = .seq [0, 1, 2, 3, 4, 5, 6, 7] .nil := rfl
theorem s141_ok : okCode E 68 s141 (Tryz.f141.body.getD .skip) = true := by kernel_rfl
/-- the orders of impl.ContainsVariable -/
def s142 (_ : Nat) : Tr := .nil
theorem s142_ok : okCode E 9 s142 (Tryz.f142.body.getD .skip) = true := by kernel_rfl
/-- the orders of impl.place -/
def s143 (_ : Nat) : Tr := .nil
theorem s143_ok : okCode E 42 s143 (Tryz.f143.body.getD .skip) = true := by kernel_rfl
/-- the orders of laws.eqTable -/
def s144 (_ : Nat) : Tr := .nil
theorem s144_ok : okCode E 16 s144 (Tryz.f144.body.getD .skip) = true := by kernel_rfl
/-- the orders of laws.eqAtom -/
def s145 (_ : Nat) : Tr := .nil
theorem s145_ok : okCode E 16 s145 (Tryz.f145.body.getD .skip) = true := by kernel_rfl
/-- the orders of laws.markText -/
def s146 (_ : Nat) : Tr := .nil
theorem s146_ok : okCode E 20 s146 (Tryz.f146.body.getD .skip) = true := by kernel_rfl
/-- the orders of impl.IsValidRelation -/
def s156 (_ : Nat) : Tr := .nil
theorem s156_ok : okCode E 8 s156 (Tryz.f156.body.getD .skip) = true := by kernel_rfl
/-- the orders of impl.copyRows -/
def s157 (_ : Nat) : Tr := .nil
theorem s157_ok : okCode E 19 s157 (Tryz.f157.body.getD .skip) = true := by kernel_rfl
/-- the orders of spec.IsValidName -/
def s164 (_ : Nat) : Tr := .nil
theorem s164_ok : okCode E 23 s164 (Tryz.f164.body.getD .skip) = true := by kernel_rfl
/-- the orders of spec.ContainsVariable -/
def s165 (_ : Nat) : Tr := .nil
theorem s165_ok : okCode E 20 s165 (Tryz.f165.body.getD .skip) = true := by kernel_rfl
/-- the orders of spec.l7Find -/
def s166 (_ : Nat) : Tr := .nil
theorem s166_ok : okCode E 19 s166 (Tryz.f166.body.getD .skip) = true := by kernel_rfl
/-- the orders of spec.AreValidValues -/
def s167 (_ : Nat) : Tr := .nil
theorem s167_ok : okCode E 16 s167 (Tryz.f167.body.getD .skip) = true := by kernel_rfl
/-- the orders of spec.l5Sort -/
def s168 (i : Nat) : Tr := if i = 13 then .seq [0, 1, 2, 3, 4, 5, 6, 7] .nil else .nil
theorem s168_13 : s168 13 = .seq [0, 1, 2, 3, 4, 5, 6, 7] .nil := rfl
theorem s168_ok : okCode E 80 s168 (Tryz.f168.body.getD .skip) = true := by kernel_rfl
/-- the orders of impl.copyRelation -/
def s169 (i : Nat) : Tr := if i = 1 then .seq [0, 1, 2, 3, 4, 5, 6] .nil else .nil
theorem s169_1 : s169 1 = .seq [0, 1, 2, 3, 4, 5, 6] .nil := rfl
theorem s169_ok : okCode E 9 s169 (Tryz.f169.body.getD .skip) = true := by kernel_rfl
/-- the orders of impl.NewRelation -/
def s170 (_ : Nat) : Tr := .nil
theorem s170_ok : okCode E 35 s170 (Tryz.f170.body.getD .skip) = true := by kernel_rfl
/-- the orders of impl.isSetOf -/
def s171 (_ : Nat) : Tr := .nil
theorem s171_ok : okCode E 27 s171 (Tryz.f171.body.getD .skip) = true := by kernel_rfl
/-- the orders of impl.IsValidName -/
def s172 (_ : Nat) : Tr := .nil
theorem s172_ok : okCode E 5 s172 (Tryz.f172.body.getD .skip) = true := by kernel_rfl
/-- the orders of impl.CompareRows -/
def s173 (i : Nat) : Tr := if i = 4 then .seq [0, 1, 2, 3, 4, 5, 6, 7, 8] .nil else if i = 5 then .seq [0, 1, 2, 3, 4, 5, 6, 7, 8, 9] .nil else .nil
theorem s173_4 : s173 4 = .seq [0, 1, 2, 3, 4, 5, 6, 7, 8] .nil := rfl
theorem s173_5 : s173 5 = .seq [0, 1, 2, 3, 4, 5, 6, 7, 8, 9] .nil := rfl
theorem s173_ok : okCode E 41 s173 (Tryz.f173.body.getD .skip) = true := by kernel_rfl
/-- the orders of impl.hasInt -/
def s174 (_ : Nat) : Tr := .nil
theorem s174_ok : okCode E 9 s174 (Tryz.f174.body.getD .skip) = true := by kernel_rfl
/-- the orders of impl.rowsValid -/
def s179 (_ : Nat) : Tr := .nil
theorem s179_ok : okCode E 46 s179 (Tryz.f179.body.getD .skip) = true := by kernel_rfl
/-- the orders of impl.AreValidValues -/
def s182 (_ : Nat) : Tr := .nil
theorem s182_ok : okCode E 15 s182 (Tryz.f182.body.getD .skip) = true := by kernel_rfl
/-- the orders of impl.isLetters -/
def s183 (_ : Nat) : Tr := .nil
theorem s183_ok : okCode E 31 s183 (Tryz.f183.body.getD .skip) = true := by kernel_rfl
/-- the orders of impl.compareInts -/
def s184 (_ : Nat) : Tr := .nil
theorem s184_ok : okCode E 13 s184 (Tryz.f184.body.getD .skip) = true := by kernel_rfl
end Go.Proofs.YtdnbigokdclclaaGreat


namespace Go.Proofs.YtdnbigokdclclaaGreat
open Go.Vs Go.Proofs Go
set_option maxRecDepth 100000
set_option maxHeartbeats 1000000


theorem w_laws_markText (k : Int) (h0 : 1 ≤ k) (h1 : k ≤ 4611686018427387904) :
   VC Tryz.prog 146 [.d (.int .i64 k)] (fun _ r => r = .d (.str (mtext k))) := by
  refine VC.of E s146 (by kernel_rfl) Tryz.func146 (by rfl) (by kernel_rfl) (by simp [Tryz.f146]) (by simp [Tryz.f146]) s146_ok fun B => ?_
  simp [Tryz.f146, show ¬ k ≤ 0 by omega]
  refine loop_rule (X := Nat × Int × List UInt8) (fun x => x.1 ≤ 64 ∧ 0 ≤ x.2.1 ∧ x.2.1 < 2 ^ x.1 ∧ x.2.2.length + x.1 = 64 ∧ mdig x.1 x.2.1 x.2.2 = mdig 64 k []) (fun x => [(0, .d (.int .i64 x.2.1)), (3, .d (.str x.2.2))]) (fun _ => []) (fun x => x.1) (64, k, []) ?_ (by simp) (by simp) ?_
  · simp; omega
  · rintro ⟨n, q, o⟩ hs t m ⟨hi1, hi2, hi3, hi4, hi5⟩ hh
    simp only at hi1 hi2 hi3 hi4 hi5
    by_cases hq : 0 < q
    · obtain ⟨n, rfl⟩ : ∃ n', n = n' + 1 := by
        cases n with
        | zero => simp at hi3; omega
        | succ n => exact ⟨n, rfl⟩
      have e1 : q.tmod 10 = q % 10 := Int.tmod_eq_emod_of_nonneg hi2
      have e2 : q.tdiv 10 = q / 10 := Int.tdiv_eq_ediv_of_nonneg hi2
      have hp : (2 : Int) ^ (n + 1) = 2 * 2 ^ n := by rw [Int.pow_succ]; omega
      have hb : (2 : Int) ^ n ≤ 2 ^ 63 := by
        have : n ≤ 63 := by omega
        exact_mod_cast Nat.pow_le_pow_right (by decide : 0 < 2) this
      simp only [hp] at hi3
      have e3 : IntKind.i64.wrap (48 + q.tmod 10) = 48 + q.tmod 10 := by rw [e1]; exact wrap64_of (by omega) (by omega)
      have e4 : IntKind.i64.wrap (q.tdiv 10) = q.tdiv 10 := by rw [e2]; exact wrap64_of (by omega) (by simp at hb; omega)
      simp [hq, e3, e4, isB, toB]
      refine ⟨by omega, ?_⟩
      refine back (n, q.tdiv 10, UInt8.ofNat (IntKind.u8.wrap (48 + q.tmod 10)).toNat :: o) ⟨by simp; omega, by simp [e2]; omega, by simp [e2]; omega, by simp at hi4 ⊢; omega, ?_⟩ (by simp) rfl (by simp) (by simp) (by simp)
      rw [← hi5]
      simp only [mdig, if_pos hq]
    · have hz : q = 0 := by omega
      subst hz
      have : mdig n 0 o = o := by cases n <;> simp [mdig]
      rw [this] at hi5
      simp [mtext, ← hi5]
      omega

end Go.Proofs.YtdnbigokdclclaaGreat


namespace Go.Proofs.YtdnbigokdclclaaGreat
open Go.Vs Go.Proofs Go
set_option maxRecDepth 100000
set_option maxHeartbeats 1000000

theorem w_laws_szIntS (a : Sl (Int)) (left : Int) (h0 : 0 ≤ left) (h1 : left ≤ 1048576) (ha : okS okI a) :
   VC Tryz.prog 48 [.d (dSl cI a), .d (.int .i64 left)] (fun _ r => r = .d (.int .i64 (szv left (swS swI a)))) := by
  refine VC.of E s48 (by kernel_rfl) Tryz.func48 (by rfl) (by kernel_rfl) (by simp [Tryz.f48]) (by simp [Tryz.f48]) s48_ok fun B => ?_
  have ha1 := ha.1
  simp only [maxLen] at ha1
  have hw1 : IntKind.i64.wrap (left - (a.xs.length : Int)) = left - a.xs.length := wrap64_of (by omega) (by omega)
  have hwt : swS swI a = a.xs.length + sumW swI a.xs := rfl
  simp [Tryz.f48, dSl, hw1]
  have hz : sumW swI a.xs = 0 := by
    generalize a.xs = l
    induction l with
    | nil => rfl
    | cons b r ih => simp [swI, ih]
  refine ⟨fun h => ?_, fun h => ?_⟩
  · rw [szv_neg (by omega)]
  · rw [szv_pos (by omega)]; omega
theorem w_laws_eqIntS (a b : Sl (Int)) (ha : okS okI a) :
   VC Tryz.prog 77 [.d (dSl cI a), .d (dSl cI b)] (fun _ r => r = .d (.bool (plS plI a == plS plI b))) := by
  refine VC.of E s77 (by kernel_rfl) Tryz.func77 (by rfl) (by kernel_rfl) (by simp [Tryz.f77]) (by simp [Tryz.f77]) s77_ok fun B => ?_
  have ha1 := ha.1
  simp only [maxLen] at ha1
  simp [Tryz.f77, s77_6, dSl, plS]
  refine ⟨fun h e => h (by have := congrArg List.length e; simp at this; omega), fun hl => ?_⟩
  have hl' : a.xs.length = b.xs.length := by omega
  refine loop_rule (X := Nat) (fun i => i ≤ a.xs.length ∧ (a.xs.map plI).take i = (b.xs.map plI).take i) (fun i => [(0, .d (.sl a.id a.T (a.xs.map cI))), (1, .d (.sl b.id b.T (b.xs.map cI))), (5, .d (.int .i64 i))]) (fun _ => []) (fun i => a.xs.length - i) 0 (by simp) (by simp) (by simp) ?_
  intro i hs t m hi hh
  by_cases hlt : i < a.xs.length
  · have hwi := wr1 (i := i) (by omega)
    have hlb : i < b.xs.length := by omega
    have hst := eqm_step plI hlt hlb hi.2
    simp [cI, hlt, hlb, hwi, s77_6, ]
    simp only [plI] at hst
    refine ⟨fun hne he => hne (hst.2 (by rw [he])), fun heq => ?_⟩
    exact back (i + 1) ⟨by omega, hst.1 heq⟩ (by omega) rfl (by simp) (by simp) (by simp)
  · have := eq_all (a := a.xs.map plI) (b := b.xs.map plI) (by simpa using Nat.le_of_not_lt hlt) (by simpa using hl') hi.2
    have hlb : ¬ i < b.xs.length := by omega
    simp [hlt, hlb, this]
theorem w_laws_szIntSS (a : Sl (Sl (Int))) (left : Int) (h0 : 0 ≤ left) (h1 : left ≤ 1048576) (ha : okS (okS okI) a) :
   VC Tryz.prog 119 [.d (dSl (cS cI) a), .d (.int .i64 left)] (fun _ r => r = .d (.int .i64 (szv left (swS (swS swI) a)))) := by
  refine VC.of E s119 (by kernel_rfl) Tryz.func119 (by rfl) (by kernel_rfl) (by simp [Tryz.f119]) (by simp [Tryz.f119]) s119_ok fun B => ?_
  have ha1 := ha.1
  simp only [maxLen] at ha1
  have hw1 : IntKind.i64.wrap (left - (a.xs.length : Int)) = left - a.xs.length := wrap64_of (by omega) (by omega)
  have hwt : swS (swS swI) a = a.xs.length + sumW (swS swI) a.xs := rfl
  simp [Tryz.f119, dSl, hw1]
  refine ⟨fun h => ?_, fun h => ?_⟩
  · rw [szv_neg (by omega)]
  · refine loop_rule (X := Nat) (fun i => i ≤ a.xs.length ∧ 0 ≤ left - a.xs.length - sumW (swS swI) (a.xs.take i)) (fun i => [(0, .d (.sl a.id a.T (a.xs.map (cS cI)))), (1, .d (.int .i64 (left - a.xs.length - sumW (swS swI) (a.xs.take i)))), (5, .d (.int .i64 i))]) (fun _ => []) (fun i => a.xs.length - i) 0 ?_ ?_ (by simp) ?_
    · simp; omega
    · simp
    · intro i hs t m hi hh
      by_cases hlt : i < a.xs.length
      · simp [cS, hlt]
        refine call_pure (w_laws_szIntS a.xs[i] _ (by omega) (by omega) (ha.2 _ (List.getElem_mem _))) rfl (by simp) rfl fun hs' hh' => ?_
        have e1 := sumW_succ (swS swI) hlt
        have e2 := sumW_le (swS swI) a.xs (i + 1)
        have hwi := wr1 (i := i) (by omega)
        by_cases hc : (swS swI a.xs[i] : Int) ≤ left - a.xs.length - sumW (swS swI) (a.xs.take i)
        · rw [szv_pos hc]
          have hn : ¬ left - a.xs.length - sumW (swS swI) (a.xs.take i) - swS swI a.xs[i] < 0 := by omega
          simp [hwi, hn]
          refine back (i + 1) ⟨by omega, by omega⟩ (by omega) rfl (by simp at hh' ⊢; omega) ?_ (by simp)
          simp
          omega
        · rw [szv_neg (by omega)]
          simp
          rw [szv_neg (by omega)]
          all_goals exact fun h => absurd h (by decide)
      · have : i = a.xs.length := by omega
        subst this
        simp
        rw [szv_pos] <;> (simp at hi ⊢; omega)
theorem w_laws_eqIntSS (a b : Sl (Sl (Int))) (ha : okS (okS okI) a) :
   VC Tryz.prog 76 [.d (dSl (cS cI) a), .d (dSl (cS cI) b)] (fun _ r => r = .d (.bool (plS (plS plI) a == plS (plS plI) b))) := by
  refine VC.of E s76 (by kernel_rfl) Tryz.func76 (by rfl) (by kernel_rfl) (by simp [Tryz.f76]) (by simp [Tryz.f76]) s76_ok fun B => ?_
  have ha1 := ha.1
  simp only [maxLen] at ha1
  simp [Tryz.f76, s76_6, dSl, plS]
  refine ⟨fun h e => h (by have := congrArg List.length e; simp at this; omega), fun hl => ?_⟩
  have hl' : a.xs.length = b.xs.length := by omega
  refine loop_rule (X := Nat) (fun i => i ≤ a.xs.length ∧ (a.xs.map (plS plI)).take i = (b.xs.map (plS plI)).take i) (fun i => [(0, .d (.sl a.id a.T (a.xs.map (cS cI)))), (1, .d (.sl b.id b.T (b.xs.map (cS cI)))), (5, .d (.int .i64 i))]) (fun _ => []) (fun i => a.xs.length - i) 0 (by simp) (by simp) (by simp) ?_
  intro i hs t m hi hh
  by_cases hlt : i < a.xs.length
  · have hwi := wr1 (i := i) (by omega)
    have hlb : i < b.xs.length := by omega
    have hst := eqm_step (plS plI) hlt hlb hi.2
    simp [cS, hlt, hlb, s76_6, ]
    refine call_pure (w_laws_eqIntS a.xs[i] b.xs[i] (ha.2 _ (List.getElem_mem _))) rfl (by simp) rfl fun hs' hh' => ?_
    simp at hh'
    simp [hwi]
    refine ⟨fun hne he => hne (hst.2 (by rw [he])), fun heq => ?_⟩
    exact back (i + 1) ⟨by omega, hst.1 heq⟩ (by omega) rfl (by simp; omega) (by simp) (by simp)
  · have := eq_all (a := a.xs.map (plS plI)) (b := b.xs.map (plS plI)) (by simpa using Nat.le_of_not_lt hlt) (by simpa using hl') hi.2
    have hlb : ¬ i < b.xs.length := by omega
    simp [hlt, hlb, this]
theorem w_laws_szRelation (a : Reln) (left : Int) (h0 : 0 ≤ left) (h1 : left ≤ 1048576) (ha : okReln a) :
   VC Tryz.prog 49 [.agg ((cReln a).map V.d), .d (.int .i64 left)] (fun _ r => r = .d (.int .i64 (szv left (swReln a)))) := by
  refine VC.of E s49 (by kernel_rfl) Tryz.func49 (by rfl) (by kernel_rfl) (by simp [Tryz.f49]) (by simp [Tryz.f49]) s49_ok fun B => ?_
  have hwt : swReln a = swS (swS swI) a.rows := rfl
  have hc0 : (0 : Int) ≤ left := h0
  simp [Tryz.f49, cI, cReln, cS, dSl]
  refine call_pure (w_laws_szIntSS a.rows _ (by omega) (by omega) ha.2) rfl (by simp) rfl fun hs' hh' => ?_
  by_cases hb0 : (swS (swS swI) a.rows : Int) ≤ left
  · rw [szv_pos hb0]
    have hn0 : ¬ left - swS (swS swI) a.rows < 0 := by omega
    simp [hn0]
    rw [szv_pos (by omega)]; omega
  · rw [szv_neg (by omega)]
    simp
    try rw [szv_neg (by omega)]
    all_goals exact fun h => absurd h (by decide)
theorem w_laws_eqRelation (a b : Reln) (ha : okReln a) :
   VC Tryz.prog 80 [.agg ((cReln a).map V.d), .agg ((cReln b).map V.d)] (fun _ r => r = .d (.bool (plReln a == plReln b))) := by
  refine VC.of E s80 (by kernel_rfl) Tryz.func80 (by rfl) (by kernel_rfl) (by simp [Tryz.f80]) (by simp [Tryz.f80]) s80_ok fun B => ?_
  simp [Tryz.f80, cI, cReln, cS, dSl, plReln, plI, plStr]
  by_cases e0 : a.ar = b.ar
  case neg => simp [e0]
  simp [e0]
  refine call_pure (w_laws_eqIntSS a.rows b.rows ha.2) rfl (by simp) rfl fun hs1 hh1 => ?_
  by_cases e1 : plS (plS plI) a.rows = plS (plS plI) b.rows
  case neg => simp [e1]
  simp [e1]
theorem w_laws_szTable (a : Tab) (left : Int) (h0 : 0 ≤ left) (h1 : left ≤ 1048576) (ha : okTab a) :
   VC Tryz.prog 117 [.agg ((cTab a).map V.d), .d (.int .i64 left)] (fun _ r => r = .d (.int .i64 (szv left (swTab a)))) := by
  refine VC.of E s117 (by kernel_rfl) Tryz.func117 (by rfl) (by kernel_rfl) (by simp [Tryz.f117]) (by simp [Tryz.f117]) s117_ok fun B => ?_
  have hwt : swTab a = swStr a.name + swReln a.rel := rfl
  have hc0 : (0 : Int) ≤ left := h0
  have hs0 : a.name.length ≤ 9223372036854775807 := ha.1
  have hw0 : IntKind.i64.wrap (left - (a.name.length : Int)) = left - a.name.length := wrap64_of (by omega) (by omega)
  have hq0 : swStr a.name = a.name.length := rfl
  simp [Tryz.f117, cI, cReln, cS, cStr, cTab, dSl, hw0]
  refine ⟨fun hneg => ?_, fun hpos => ?_⟩
  · rw [szv_neg (by omega)]
  · skip
    refine call_pure (w_laws_szRelation a.rel _ (by omega) (by omega) ha.2) rfl (by simp) rfl fun hs' hh' => ?_
    by_cases hb1 : (swReln a.rel : Int) ≤ left - a.name.length
    · rw [szv_pos hb1]
      have hn1 : ¬ left - a.name.length - swReln a.rel < 0 := by omega
      simp [hn1]
      rw [szv_pos (by omega)]; omega
    · rw [szv_neg (by omega)]
      simp
      try rw [szv_neg (by omega)]
      all_goals exact fun h => absurd h (by decide)
theorem w_laws_eqTable (a b : Tab) (ha : okTab a) :
   VC Tryz.prog 144 [.agg ((cTab a).map V.d), .agg ((cTab b).map V.d)] (fun _ r => r = .d (.bool (plTab a == plTab b))) := by
  refine VC.of E s144 (by kernel_rfl) Tryz.func144 (by rfl) (by kernel_rfl) (by simp [Tryz.f144]) (by simp [Tryz.f144]) s144_ok fun B => ?_
  simp [Tryz.f144, cI, cReln, cS, cStr, cTab, dSl, plTab, plI, plStr]
  by_cases e0 : a.name = b.name
  case neg => simp [e0]
  simp [e0]
  refine call_pure (w_laws_eqRelation a.rel b.rel ha.2) rfl (by simp) rfl fun hs1 hh1 => ?_
  by_cases e1 : plReln a.rel = plReln b.rel
  case neg => simp [e1]
  simp [e1]
theorem w_laws_szTableS (a : Sl (Tab)) (left : Int) (h0 : 0 ≤ left) (h1 : left ≤ 1048576) (ha : okS okTab a) :
   VC Tryz.prog 46 [.d (dSl cTab a), .d (.int .i64 left)] (fun _ r => r = .d (.int .i64 (szv left (swS swTab a)))) := by
  refine VC.of E s46 (by kernel_rfl) Tryz.func46 (by rfl) (by kernel_rfl) (by simp [Tryz.f46]) (by simp [Tryz.f46]) s46_ok fun B => ?_
  have ha1 := ha.1
  simp only [maxLen] at ha1
  have hw1 : IntKind.i64.wrap (left - (a.xs.length : Int)) = left - a.xs.length := wrap64_of (by omega) (by omega)
  have hwt : swS swTab a = a.xs.length + sumW swTab a.xs := rfl
  simp [Tryz.f46, dSl, hw1]
  refine ⟨fun h => ?_, fun h => ?_⟩
  · rw [szv_neg (by omega)]
  · refine loop_rule (X := Nat) (fun i => i ≤ a.xs.length ∧ 0 ≤ left - a.xs.length - sumW swTab (a.xs.take i)) (fun i => [(0, .d (.sl a.id a.T (a.xs.map cTab))), (1, .d (.int .i64 (left - a.xs.length - sumW swTab (a.xs.take i)))), (5, .d (.int .i64 i))]) (fun _ => []) (fun i => a.xs.length - i) 0 ?_ ?_ (by simp) ?_
    · simp; omega
    · simp
    · intro i hs t m hi hh
      by_cases hlt : i < a.xs.length
      · simp [cI, cReln, cS, cStr, cTab, hlt]
        refine call_pure (w_laws_szTable a.xs[i] _ (by omega) (by omega) (ha.2 _ (List.getElem_mem _))) rfl (by simp) rfl fun hs' hh' => ?_
        have e1 := sumW_succ swTab hlt
        have e2 := sumW_le swTab a.xs (i + 1)
        have hwi := wr1 (i := i) (by omega)
        by_cases hc : (swTab a.xs[i] : Int) ≤ left - a.xs.length - sumW swTab (a.xs.take i)
        · rw [szv_pos hc]
          have hn : ¬ left - a.xs.length - sumW swTab (a.xs.take i) - swTab a.xs[i] < 0 := by omega
          simp [hwi, hn]
          refine back (i + 1) ⟨by omega, by omega⟩ (by omega) rfl (by simp at hh' ⊢; omega) ?_ (by simp)
          simp
          omega
        · rw [szv_neg (by omega)]
          simp
          rw [szv_neg (by omega)]
          all_goals exact fun h => absurd h (by decide)
      · have : i = a.xs.length := by omega
        subst this
        simp
        rw [szv_pos] <;> (simp at hi ⊢; omega)
theorem w_laws_eqTableS (a b : Sl (Tab)) (ha : okS okTab a) :
   VC Tryz.prog 78 [.d (dSl cTab a), .d (dSl cTab b)] (fun _ r => r = .d (.bool (plS plTab a == plS plTab b))) := by
  refine VC.of E s78 (by kernel_rfl) Tryz.func78 (by rfl) (by kernel_rfl) (by simp [Tryz.f78]) (by simp [Tryz.f78]) s78_ok fun B => ?_
  have ha1 := ha.1
  simp only [maxLen] at ha1
  simp [Tryz.f78, s78_6, dSl, plS]
  refine ⟨fun h e => h (by have := congrArg List.length e; simp at this; omega), fun hl => ?_⟩
  have hl' : a.xs.length = b.xs.length := by omega
  refine loop_rule (X := Nat) (fun i => i ≤ a.xs.length ∧ (a.xs.map plTab).take i = (b.xs.map plTab).take i) (fun i => [(0, .d (.sl a.id a.T (a.xs.map cTab))), (1, .d (.sl b.id b.T (b.xs.map cTab))), (5, .d (.int .i64 i))]) (fun _ => []) (fun i => a.xs.length - i) 0 (by simp) (by simp) (by simp) ?_
  intro i hs t m hi hh
  by_cases hlt : i < a.xs.length
  · have hwi := wr1 (i := i) (by omega)
    have hlb : i < b.xs.length := by omega
    have hst := eqm_step plTab hlt hlb hi.2
    simp [cI, cReln, cS, cStr, cTab, hlt, hlb, s78_6, ]
    refine call_pure (w_laws_eqTable a.xs[i] b.xs[i] (ha.2 _ (List.getElem_mem _))) rfl (by simp) rfl fun hs' hh' => ?_
    simp at hh'
    simp [hwi]
    refine ⟨fun hne he => hne (hst.2 (by rw [he])), fun heq => ?_⟩
    exact back (i + 1) ⟨by omega, hst.1 heq⟩ (by omega) rfl (by simp; omega) (by simp) (by simp)
  · have := eq_all (a := a.xs.map plTab) (b := b.xs.map plTab) (by simpa using Nat.le_of_not_lt hlt) (by simpa using hl') hi.2
    have hlb : ¬ i < b.xs.length := by omega
    simp [hlt, hlb, this]
theorem w_laws_szDatabase (a : Db) (left : Int) (h0 : 0 ≤ left) (h1 : left ≤ 1048576) (ha : okDb a) :
   VC Tryz.prog 7 [.agg ((cDb a).map V.d), .d (.int .i64 left)] (fun _ r => r = .d (.int .i64 (szv left (swDb a)))) := by
  refine VC.of E s7 (by kernel_rfl) Tryz.func7 (by rfl) (by kernel_rfl) (by simp [Tryz.f7]) (by simp [Tryz.f7]) s7_ok fun B => ?_
  have hwt : swDb a = swS swTab a.tabs := rfl
  have hc0 : (0 : Int) ≤ left := h0
  simp [Tryz.f7, cDb, cS, dSl]
  refine call_pure (w_laws_szTableS a.tabs _ (by omega) (by omega) ha) rfl (by simp) rfl fun hs' hh' => ?_
  by_cases hb0 : (swS swTab a.tabs : Int) ≤ left
  · rw [szv_pos hb0]
    have hn0 : ¬ left - swS swTab a.tabs < 0 := by omega
    simp [hn0]
    rw [szv_pos (by omega)]; omega
  · rw [szv_neg (by omega)]
    simp
    try rw [szv_neg (by omega)]
    all_goals exact fun h => absurd h (by decide)
theorem w_laws_eqDatabase (a b : Db) (ha : okDb a) :
   VC Tryz.prog 16 [.agg ((cDb a).map V.d), .agg ((cDb b).map V.d)] (fun _ r => r = .d (.bool (plDb a == plDb b))) := by
  refine VC.of E s16 (by kernel_rfl) Tryz.func16 (by rfl) (by kernel_rfl) (by simp [Tryz.f16]) (by simp [Tryz.f16]) s16_ok fun B => ?_
  simp [Tryz.f16, cDb, cS, dSl, plDb, plI, plStr]
  refine call_pure (w_laws_eqTableS a.tabs b.tabs ha) rfl (by simp) rfl fun hs0 hh0 => ?_
  by_cases e0 : plS plTab a.tabs = plS plTab b.tabs
  case neg => simp [e0]
  simp [e0]
theorem w_laws_szDelta (a : Delta) (left : Int) (h0 : 0 ≤ left) (h1 : left ≤ 1048576) (ha : okDelta a) :
   VC Tryz.prog 9 [.agg ((cDelta a).map V.d), .d (.int .i64 left)] (fun _ r => r = .d (.int .i64 (szv left (swDelta a)))) := by
  refine VC.of E s9 (by kernel_rfl) Tryz.func9 (by rfl) (by kernel_rfl) (by simp [Tryz.f9]) (by simp [Tryz.f9]) s9_ok fun B => ?_
  have hwt : swDelta a = swStr a.name + swReln a.ins + swReln a.del := rfl
  have hc0 : (0 : Int) ≤ left := h0
  have hs0 : a.name.length ≤ 9223372036854775807 := ha.1
  have hw0 : IntKind.i64.wrap (left - (a.name.length : Int)) = left - a.name.length := wrap64_of (by omega) (by omega)
  have hq0 : swStr a.name = a.name.length := rfl
  simp [Tryz.f9, cDelta, cI, cReln, cS, cStr, dSl, hw0]
  refine ⟨fun hneg => ?_, fun hpos => ?_⟩
  · rw [szv_neg (by omega)]
  · skip
    refine call_pure (w_laws_szRelation a.ins _ (by omega) (by omega) ha.2.1) rfl (by simp) rfl fun hs' hh' => ?_
    by_cases hb1 : (swReln a.ins : Int) ≤ left - a.name.length
    · rw [szv_pos hb1]
      have hn1 : ¬ left - a.name.length - swReln a.ins < 0 := by omega
      simp [hn1]
      refine call_pure (w_laws_szRelation a.del _ (by omega) (by omega) ha.2.2) rfl (by simp) rfl fun hs' hh' => ?_
      by_cases hb2 : (swReln a.del : Int) ≤ left - a.name.length - swReln a.ins
      · rw [szv_pos hb2]
        have hn2 : ¬ left - a.name.length - swReln a.ins - swReln a.del < 0 := by omega
        simp [hn2]
        rw [szv_pos (by omega)]; omega
      · rw [szv_neg (by omega)]
        simp
        try rw [szv_neg (by omega)]
        all_goals exact fun h => absurd h (by decide)
    · rw [szv_neg (by omega)]
      simp
      try rw [szv_neg (by omega)]
      all_goals exact fun h => absurd h (by decide)
theorem w_laws_eqDelta (a b : Delta) (ha : okDelta a) :
   VC Tryz.prog 18 [.agg ((cDelta a).map V.d), .agg ((cDelta b).map V.d)] (fun _ r => r = .d (.bool (plDelta a == plDelta b))) := by
  refine VC.of E s18 (by kernel_rfl) Tryz.func18 (by rfl) (by kernel_rfl) (by simp [Tryz.f18]) (by simp [Tryz.f18]) s18_ok fun B => ?_
  simp [Tryz.f18, cDelta, cI, cReln, cS, cStr, dSl, plDelta, plI, plStr]
  by_cases e0 : a.name = b.name
  case neg => simp [e0]
  simp [e0]
  refine call_pure (w_laws_eqRelation a.ins b.ins ha.2.1) rfl (by simp) rfl fun hs1 hh1 => ?_
  by_cases e1 : plReln a.ins = plReln b.ins
  case neg => simp [e1]
  simp [e1]
  refine call_pure (w_laws_eqRelation a.del b.del ha.2.2) rfl (by simp) rfl fun hs2 hh2 => ?_
  by_cases e2 : plReln a.del = plReln b.del
  case neg => simp [e2]
  simp [e2]
theorem w_laws_eqCountedRelation (a b : Cnt) (ha : okCnt a) :
   VC Tryz.prog 15 [.agg ((cCnt a).map V.d), .agg ((cCnt b).map V.d)] (fun _ r => r = .d (.bool (plCnt a == plCnt b))) := by
  refine VC.of E s15 (by kernel_rfl) Tryz.func15 (by rfl) (by kernel_rfl) (by simp [Tryz.f15]) (by simp [Tryz.f15]) s15_ok fun B => ?_
  simp [Tryz.f15, cCnt, cI, cS, dSl, plCnt, plI, plStr]
  by_cases e0 : a.ar = b.ar
  case neg => simp [e0]
  simp [e0]
  refine call_pure (w_laws_eqIntSS a.rows b.rows ha.2.1) rfl (by simp) rfl fun hs1 hh1 => ?_
  by_cases e1 : plS (plS plI) a.rows = plS (plS plI) b.rows
  case neg => simp [e1]
  simp [e1]
  refine call_pure (w_laws_eqIntS a.cs b.cs ha.2.2) rfl (by simp) rfl fun hs2 hh2 => ?_
  by_cases e2 : plS plI a.cs = plS plI b.cs
  case neg => simp [e2]
  simp [e2]
theorem w_laws_szAtom (a : Atom) (left : Int) (h0 : 0 ≤ left) (h1 : left ≤ 1048576) (ha : okAtom a) :
   VC Tryz.prog 118 [.agg ((cAtom a).map V.d), .d (.int .i64 left)] (fun _ r => r = .d (.int .i64 (szv left (swAtom a)))) := by
  refine VC.of E s118 (by kernel_rfl) Tryz.func118 (by rfl) (by kernel_rfl) (by simp [Tryz.f118]) (by simp [Tryz.f118]) s118_ok fun B => ?_
  have hwt : swAtom a = swStr a.rel + swS swI a.vars := rfl
  have hc0 : (0 : Int) ≤ left := h0
  have hs0 : a.rel.length ≤ 9223372036854775807 := ha.1
  have hw0 : IntKind.i64.wrap (left - (a.rel.length : Int)) = left - a.rel.length := wrap64_of (by omega) (by omega)
  have hq0 : swStr a.rel = a.rel.length := rfl
  simp [Tryz.f118, cAtom, cS, cStr, dSl, hw0]
  refine ⟨fun hneg => ?_, fun hpos => ?_⟩
  · rw [szv_neg (by omega)]
  · skip
    refine call_pure (w_laws_szIntS a.vars _ (by omega) (by omega) ha.2) rfl (by simp) rfl fun hs' hh' => ?_
    by_cases hb1 : (swS swI a.vars : Int) ≤ left - a.rel.length
    · rw [szv_pos hb1]
      have hn1 : ¬ left - a.rel.length - swS swI a.vars < 0 := by omega
      simp [hn1]
      rw [szv_pos (by omega)]; omega
    · rw [szv_neg (by omega)]
      simp
      try rw [szv_neg (by omega)]
      all_goals exact fun h => absurd h (by decide)
theorem w_laws_eqAtom (a b : Atom) (ha : okAtom a) :
   VC Tryz.prog 145 [.agg ((cAtom a).map V.d), .agg ((cAtom b).map V.d)] (fun _ r => r = .d (.bool (plAtom a == plAtom b))) := by
  refine VC.of E s145 (by kernel_rfl) Tryz.func145 (by rfl) (by kernel_rfl) (by simp [Tryz.f145]) (by simp [Tryz.f145]) s145_ok fun B => ?_
  simp [Tryz.f145, cAtom, cS, cStr, dSl, plAtom, plI, plStr]
  by_cases e0 : a.rel = b.rel
  case neg => simp [e0]
  simp [e0]
  refine call_pure (w_laws_eqIntS a.vars b.vars ha.2) rfl (by simp) rfl fun hs1 hh1 => ?_
  by_cases e1 : plS plI a.vars = plS plI b.vars
  case neg => simp [e1]
  simp [e1]
theorem w_laws_szAtomS (a : Sl (Atom)) (left : Int) (h0 : 0 ≤ left) (h1 : left ≤ 1048576) (ha : okS okAtom a) :
   VC Tryz.prog 47 [.d (dSl cAtom a), .d (.int .i64 left)] (fun _ r => r = .d (.int .i64 (szv left (swS swAtom a)))) := by
  refine VC.of E s47 (by kernel_rfl) Tryz.func47 (by rfl) (by kernel_rfl) (by simp [Tryz.f47]) (by simp [Tryz.f47]) s47_ok fun B => ?_
  have ha1 := ha.1
  simp only [maxLen] at ha1
  have hw1 : IntKind.i64.wrap (left - (a.xs.length : Int)) = left - a.xs.length := wrap64_of (by omega) (by omega)
  have hwt : swS swAtom a = a.xs.length + sumW swAtom a.xs := rfl
  simp [Tryz.f47, dSl, hw1]
  refine ⟨fun h => ?_, fun h => ?_⟩
  · rw [szv_neg (by omega)]
  · refine loop_rule (X := Nat) (fun i => i ≤ a.xs.length ∧ 0 ≤ left - a.xs.length - sumW swAtom (a.xs.take i)) (fun i => [(0, .d (.sl a.id a.T (a.xs.map cAtom))), (1, .d (.int .i64 (left - a.xs.length - sumW swAtom (a.xs.take i)))), (5, .d (.int .i64 i))]) (fun _ => []) (fun i => a.xs.length - i) 0 ?_ ?_ (by simp) ?_
    · simp; omega
    · simp
    · intro i hs t m hi hh
      by_cases hlt : i < a.xs.length
      · simp [cAtom, cS, cStr, hlt]
        refine call_pure (w_laws_szAtom a.xs[i] _ (by omega) (by omega) (ha.2 _ (List.getElem_mem _))) rfl (by simp) rfl fun hs' hh' => ?_
        have e1 := sumW_succ swAtom hlt
        have e2 := sumW_le swAtom a.xs (i + 1)
        have hwi := wr1 (i := i) (by omega)
        by_cases hc : (swAtom a.xs[i] : Int) ≤ left - a.xs.length - sumW swAtom (a.xs.take i)
        · rw [szv_pos hc]
          have hn : ¬ left - a.xs.length - sumW swAtom (a.xs.take i) - swAtom a.xs[i] < 0 := by omega
          simp [hwi, hn]
          refine back (i + 1) ⟨by omega, by omega⟩ (by omega) rfl (by simp at hh' ⊢; omega) ?_ (by simp)
          simp
          omega
        · rw [szv_neg (by omega)]
          simp
          rw [szv_neg (by omega)]
          all_goals exact fun h => absurd h (by decide)
      · have : i = a.xs.length := by omega
        subst this
        simp
        rw [szv_pos] <;> (simp at hi ⊢; omega)
theorem w_laws_eqAtomS (a b : Sl (Atom)) (ha : okS okAtom a) :
   VC Tryz.prog 79 [.d (dSl cAtom a), .d (dSl cAtom b)] (fun _ r => r = .d (.bool (plS plAtom a == plS plAtom b))) := by
  refine VC.of E s79 (by kernel_rfl) Tryz.func79 (by rfl) (by kernel_rfl) (by simp [Tryz.f79]) (by simp [Tryz.f79]) s79_ok fun B => ?_
  have ha1 := ha.1
  simp only [maxLen] at ha1
  simp [Tryz.f79, s79_6, dSl, plS]
  refine ⟨fun h e => h (by have := congrArg List.length e; simp at this; omega), fun hl => ?_⟩
  have hl' : a.xs.length = b.xs.length := by omega
  refine loop_rule (X := Nat) (fun i => i ≤ a.xs.length ∧ (a.xs.map plAtom).take i = (b.xs.map plAtom).take i) (fun i => [(0, .d (.sl a.id a.T (a.xs.map cAtom))), (1, .d (.sl b.id b.T (b.xs.map cAtom))), (5, .d (.int .i64 i))]) (fun _ => []) (fun i => a.xs.length - i) 0 (by simp) (by simp) (by simp) ?_
  intro i hs t m hi hh
  by_cases hlt : i < a.xs.length
  · have hwi := wr1 (i := i) (by omega)
    have hlb : i < b.xs.length := by omega
    have hst := eqm_step plAtom hlt hlb hi.2
    simp [cAtom, cS, cStr, hlt, hlb, s79_6, ]
    refine call_pure (w_laws_eqAtom a.xs[i] b.xs[i] (ha.2 _ (List.getElem_mem _))) rfl (by simp) rfl fun hs' hh' => ?_
    simp at hh'
    simp [hwi]
    refine ⟨fun hne he => hne (hst.2 (by rw [he])), fun heq => ?_⟩
    exact back (i + 1) ⟨by omega, hst.1 heq⟩ (by omega) rfl (by simp; omega) (by simp) (by simp)
  · have := eq_all (a := a.xs.map plAtom) (b := b.xs.map plAtom) (by simpa using Nat.le_of_not_lt hlt) (by simpa using hl') hi.2
    have hlb : ¬ i < b.xs.length := by omega
    simp [hlt, hlb, this]
theorem w_laws_szQuery (a : Query) (left : Int) (h0 : 0 ≤ left) (h1 : left ≤ 1048576) (ha : okQuery a) :
   VC Tryz.prog 8 [.agg ((cQuery a).map V.d), .d (.int .i64 left)] (fun _ r => r = .d (.int .i64 (szv left (swQuery a)))) := by
  refine VC.of E s8 (by kernel_rfl) Tryz.func8 (by rfl) (by kernel_rfl) (by simp [Tryz.f8]) (by simp [Tryz.f8]) s8_ok fun B => ?_
  have hwt : swQuery a = swS swAtom a.atoms + swS swI a.out := rfl
  have hc0 : (0 : Int) ≤ left := h0
  simp [Tryz.f8, cI, cQuery, cS, dSl]
  refine call_pure (w_laws_szAtomS a.atoms _ (by omega) (by omega) ha.2.1) rfl (by simp) rfl fun hs' hh' => ?_
  by_cases hb0 : (swS swAtom a.atoms : Int) ≤ left
  · rw [szv_pos hb0]
    have hn0 : ¬ left - swS swAtom a.atoms < 0 := by omega
    simp [hn0]
    refine call_pure (w_laws_szIntS a.out _ (by omega) (by omega) ha.2.2) rfl (by simp) rfl fun hs' hh' => ?_
    by_cases hb1 : (swS swI a.out : Int) ≤ left - swS swAtom a.atoms
    · rw [szv_pos hb1]
      have hn1 : ¬ left - swS swAtom a.atoms - swS swI a.out < 0 := by omega
      simp [hn1]
      rw [szv_pos (by omega)]; omega
    · rw [szv_neg (by omega)]
      simp
      try rw [szv_neg (by omega)]
      all_goals exact fun h => absurd h (by decide)
  · rw [szv_neg (by omega)]
    simp
    try rw [szv_neg (by omega)]
    all_goals exact fun h => absurd h (by decide)
theorem w_laws_eqQuery (a b : Query) (ha : okQuery a) :
   VC Tryz.prog 17 [.agg ((cQuery a).map V.d), .agg ((cQuery b).map V.d)] (fun _ r => r = .d (.bool (plQuery a == plQuery b))) := by
  refine VC.of E s17 (by kernel_rfl) Tryz.func17 (by rfl) (by kernel_rfl) (by simp [Tryz.f17]) (by simp [Tryz.f17]) s17_ok fun B => ?_
  simp [Tryz.f17, cI, cQuery, cS, dSl, plQuery, plI, plStr]
  by_cases e0 : a.n = b.n
  case neg => simp [e0]
  simp [e0]
  refine call_pure (w_laws_eqAtomS a.atoms b.atoms ha.2.1) rfl (by simp) rfl fun hs1 hh1 => ?_
  by_cases e1 : plS plAtom a.atoms = plS plAtom b.atoms
  case neg => simp [e1]
  simp [e1]
  refine call_pure (w_laws_eqIntS a.out b.out ha.2.2) rfl (by simp) rfl fun hs2 hh2 => ?_
  by_cases e2 : plS plI a.out = plS plI b.out
  case neg => simp [e2]
  simp [e2]

end Go.Proofs.YtdnbigokdclclaaGreat


namespace Go.Proofs.YtdnbigokdclclaaGreat
open Go.Vs Go.Proofs Go
set_option maxRecDepth 100000
set_option maxHeartbeats 1000000

theorem w_laws_toIntS (a : Sl (Int)) (ha : okS okI a) (hb : a.xs.length ≤ 1048576) :
   VC Tryz.prog 61 [.d (dSl cI a)] (fun n r => ∃ y : Sl (Int), r = .d (dSl cI y) ∧ plS plI y = plS plI a ∧ okS okI y ∧ Good (cS cI y) (whS whI y) n) := by
  refine VC.of E s61 (by kernel_rfl) Tryz.func61 (by rfl) (by kernel_rfl) (by simp [Tryz.f61]) (by simp [Tryz.f61]) s61_ok fun B => ?_
  simp [Tryz.f61, dSl]
  refine ⟨⟨by omega, by simp only [maxLen]; omega⟩, ?_⟩
  refine loop_rule (X := Nat) (fun i => i ≤ a.xs.length) (fun i => [(0, .d (.sl a.id a.T (a.xs.map cI))), (3, .own 7 0 a.xs.length), (4, .d (.int .i64 i))]) (fun i => [(7, some (.row 3 1 (fill [.int .i64 0] (a.xs.map cI) i)))]) (fun i => a.xs.length - i) 0 (by simp) (by simp) (by simp) ?_
  intro i hs t m hi hh
  by_cases hlt : i < a.xs.length
  · have hwi := wr1 (i := i) (by omega)
    simp [cI, hlt, hwi]
    refine back (i + 1) (by omega) (by omega) rfl (by simp) (by simp) ?_
    have := fill_set (z := [.int .i64 0]) (l := a.xs.map cI) (i := i) (by simpa using hlt) (by simp [hlt]; rfl)
    simp only [cI] at this ⊢
    simp [this]
  · have hn : i = a.xs.length := by omega
    subst hn
    have hf : fill [.int .i64 0] (a.xs.map cI) a.xs.length = a.xs.map cI := fill_all (by simp)
    simp [hf]
    intro γ hs' h1 hg
    obtain ⟨q1, q2⟩ := gam_at hg (k := 7) (T := 3) (sz := 1) (es := a.xs.map cI) (by simp)
    have q3 := gam_row hg (k := 7) (T := 3) (sz := 1) (es := a.xs.map cI) (by simp)
    clear hg
    refine ⟨⟨γ 7, some (3, 1), a.xs⟩, ⟨⟨rfl, rfl, List.take_of_length_le (by simp)⟩, rfl, ha, good_row (fun g hg => (q1 g hg).1) (by simpa using q2) q3 ⟨by simp, by simp⟩ (by simp [whI, whStr])⟩⟩
theorem w_laws_heldIntS (a : Sl (Int)) (k : Int) (h0 : 1 ≤ k) (h1 : k + wtS wtI a ≤ 4611686018427387904) (ha : okS okI a) :
   VC Tryz.prog 87 [.d (dSl cI a), .d (.int .i64 k)] (fun _ r => r = .d (.int .i64 (hv (hlS (hlI) (wtI) a k) k (wtS wtI a)))) := by
  refine VC.of E s87 (by kernel_rfl) Tryz.func87 (by rfl) (by kernel_rfl) (by simp [Tryz.f87]) (by simp [Tryz.f87]) s87_ok fun B => ?_
  obtain ⟨id, T, xs⟩ := a
  have ha1 := ha.1
  simp only [maxLen] at ha1
  have hwt : wtS wtI (⟨id, T, xs⟩ : Sl (Int)) = sumW wtI xs := rfl
  have hhl : hlS (hlI) (wtI) (⟨id, T, xs⟩ : Sl (Int)) k = hlList hlI wtI xs k := rfl
  rw [hwt] at h1
  rw [hwt, hhl]
  simp [Tryz.f87, dSl]
  refine loop_rule (X := Nat) (fun i => i ≤ xs.length ∧ hlList hlI wtI (xs.take i) k = true) (fun i => [(0, .d (.sl id T (xs.map cI))), (1, .d (.int .i64 (k + sumW wtI (xs.take i)))), (5, .d (.int .i64 i))]) (fun _ => []) (fun i => xs.length - i) 0 (by simp [hlList]) (by simp) (by simp) ?_
  intro i hs t m hi hh
  by_cases hlt : i < xs.length
  · have hwi := wr1 (i := i) (by omega)
    have e1 := sumW_succ wtI hlt
    have e2 := sumW_le wtI xs (i + 1)
    have hmem : xs[i] ∈ xs := List.getElem_mem _
    have hstep := hlList_step (hl := hlI) (wt := wtI) (k := k) hlt
    rw [hi.2, Bool.true_and] at hstep
    have hbad := hlList_bad (hl := hlI) (wt := wtI) (k := k) hlt
    have hex : hlI xs[i] (k + sumW wtI (xs.take i)) = (xs[i] == k + sumW wtI (xs.take i)) := rfl
    have hwx : wtI xs[i] = 1 := by first | rfl | (simp only [wtTab, wtDelta, wtReln, wtStr, wtI]; omega)
    have hk0 : IntKind.i64.wrap (k + sumW wtI (xs.take i) + 1) = k + sumW wtI (xs.take i) + 1 := wrap64_of (by omega) (by omega)
    simp [cI, hlt, dSl, ]
    by_cases c0 : xs[i] = k + sumW wtI (xs.take i)
    case neg => simp [c0, hbad (by simp [hex, c0])]
    simp [c0, hk0, ]
    simp [hwi]
    refine back (i + 1) ⟨by omega, hstep.trans (hex.trans (by simp [c0]))⟩ (by omega) rfl (by simp <;> omega) ?_ (by simp)
    simp
    omega
  · have hn : i = xs.length := by omega
    subst hn
    have h2 := hi.2
    rw [List.take_length] at h2
    simp [h2]
theorem w_laws_toIntSS (a : Sl (Sl (Int))) (ha : okS (okS okI) a) (hb : swS (swS swI) a ≤ 1048576) :
   VC Tryz.prog 128 [.d (dSl (cS cI) a)] (fun n r => ∃ y : Sl (Sl (Int)), r = .d (dSl (cS cI) y) ∧ plS (plS plI) y = plS (plS plI) a ∧ okS (okS okI) y ∧ Good (cS (cS cI) y) (whS (whS whI) y) n) := by
  refine VC.of E s128 (by kernel_rfl) Tryz.func128 (by rfl) (by kernel_rfl) (by simp [Tryz.f128]) (by simp [Tryz.f128]) s128_ok fun B => ?_
  have hwt : swS (swS swI) a = a.xs.length + sumW (swS swI) a.xs := rfl
  simp [Tryz.f128, dSl]
  refine ⟨⟨by omega, by simp only [maxLen]; omega⟩, ?_⟩
  refine loop_rule2 (X := Nat × List (Sl (Int))) (fun p h => p.1 ≤ a.xs.length ∧ p.2.length = p.1 ∧ p.2.map (plS plI) = (a.xs.map (plS plI)).take p.1 ∧ (∀ y ∈ p.2, okS okI y) ∧ GoodL (cS cI) (whS whI) B h p.2) (fun p => [(0, .d (.sl a.id a.T (a.xs.map (cS cI)))), (3, .own 7 0 a.xs.length), (4, .d (.int .i64 p.1))]) (fun p => [(7, some (.row 26 1 (p.2.map (cS cI) ++ List.replicate (a.xs.length - p.1) [.sl none none []])))]) (fun p => a.xs.length - p.1) (0, []) ⟨by simp, rfl, by simp, by simp, GoodL.nil⟩ (by simp) (by simp) ?_
  rintro ⟨i, ys⟩ hs t m ⟨hi, hyl, hpl, hok, hgd⟩ hh
  simp only at hi hyl hpl hok hgd
  by_cases hlt : i < a.xs.length
  · have hwi := wr1 (i := i) (by omega)
    have hmem : a.xs[i] ∈ a.xs := List.getElem_mem _
    have hsw := sumW_mem (swS swI) hmem
    simp [cS, hlt]
    refine call_some (w_laws_toIntS a.xs[i] (ha.2 _ hmem) (by simp only [swS] at hsw; omega)) rfl (by simp) fun n hs' r hn hn' hp hr => ?_
    obtain ⟨y, rfl, hy1, hy2, hy3⟩ := hp
    simp at hn
    have hr' : ∀ g ∈ idsL (cS cI y), g < hs' := fun g hg => hr g (by first | (simp [cS, V.ids, idsVL, idsL] at hg; done) | simpa [cS, V.ids, idsVL, idsL] using hg)
    have hyi : ys.length = i := hyl
    simp [cS, hlt, hwi, hyi, show i + (a.xs.length - i) = a.xs.length by omega, dSl]
    refine back2 (i + 1, ys ++ [y]) ⟨by omega, by simp [hyi], ?_, ?_, ?_⟩ (by simp <;> omega) rfl (by simp <;> omega) (by simp) ?_
    · simp only [List.map_append, hpl, List.map_cons, List.map_nil, hy1]
      rw [List.take_succ_eq_append_getElem (by simpa using hlt)]; simp
    · intro y' hy'
      rcases List.mem_append.1 hy' with h | h
      · exact hok y' h
      · rw [List.mem_singleton.1 h]; exact hy2
    · exact GoodL.snoc hgd (by omega) hn' hy3 hr'
    · simp [rep_set0 hlt, cS, dSl]
  · have hn : i = a.xs.length := by omega
    subst hn
    simp
    intro γ hs' h1 hg
    obtain ⟨q1, q2⟩ := gam_at hg (k := 7) (T := 26) (sz := 1) (es := ys.map (cS cI)) (by simp [upd])
    have q3 := gam_row hg (k := 7) (T := 26) (sz := 1) (es := ys.map (cS cI)) (by simp [upd])
    clear hg
    refine ⟨_, ⟨by omega, rfl⟩, ⟨γ 7, some (26, 1), ys⟩, ?_, by rw [List.take_of_length_le (by simp)] at hpl; exact hpl, ⟨by simp only [maxLen]; show ys.length ≤ _; omega, hok⟩, good_row (fun g hg => (q1 g hg).1) (by simpa using q2) q3 ⟨hgd.nd, hgd.lo⟩ hgd.wh⟩
    rw [if_pos hyl.symm, List.take_of_length_le (by simp [hyl])]
theorem w_laws_heldIntSS (a : Sl (Sl (Int))) (k : Int) (h0 : 1 ≤ k) (h1 : k + wtS (wtS wtI) a ≤ 4611686018427387904) (ha : okS (okS okI) a) :
   VC Tryz.prog 86 [.d (dSl (cS cI) a), .d (.int .i64 k)] (fun _ r => r = .d (.int .i64 (hv (hlS (hlS (hlI) (wtI)) (wtS wtI) a k) k (wtS (wtS wtI) a)))) := by
  refine VC.of E s86 (by kernel_rfl) Tryz.func86 (by rfl) (by kernel_rfl) (by simp [Tryz.f86]) (by simp [Tryz.f86]) s86_ok fun B => ?_
  obtain ⟨id, T, xs⟩ := a
  have ha1 := ha.1
  simp only [maxLen] at ha1
  have hwt : wtS (wtS wtI) (⟨id, T, xs⟩ : Sl (Sl (Int))) = sumW (wtS wtI) xs := rfl
  have hhl : hlS (hlS (hlI) (wtI)) (wtS wtI) (⟨id, T, xs⟩ : Sl (Sl (Int))) k = hlList (hlS (hlI) (wtI)) (wtS wtI) xs k := rfl
  rw [hwt] at h1
  rw [hwt, hhl]
  simp [Tryz.f86, dSl]
  refine loop_rule (X := Nat) (fun i => i ≤ xs.length ∧ hlList (hlS (hlI) (wtI)) (wtS wtI) (xs.take i) k = true) (fun i => [(0, .d (.sl id T (xs.map (cS cI)))), (1, .d (.int .i64 (k + sumW (wtS wtI) (xs.take i)))), (5, .d (.int .i64 i))]) (fun _ => []) (fun i => xs.length - i) 0 (by simp [hlList]) (by simp) (by simp) ?_
  intro i hs t m hi hh
  by_cases hlt : i < xs.length
  · have hwi := wr1 (i := i) (by omega)
    have e1 := sumW_succ (wtS wtI) hlt
    have e2 := sumW_le (wtS wtI) xs (i + 1)
    have hmem : xs[i] ∈ xs := List.getElem_mem _
    have hstep := hlList_step (hl := (hlS (hlI) (wtI))) (wt := (wtS wtI)) (k := k) hlt
    rw [hi.2, Bool.true_and] at hstep
    have hbad := hlList_bad (hl := (hlS (hlI) (wtI))) (wt := (wtS wtI)) (k := k) hlt
    have hex : hlS (hlI) (wtI) xs[i] (k + sumW (wtS wtI) (xs.take i)) = (hlS (hlI) (wtI) xs[i] (k + sumW (wtS wtI) (xs.take i))) := rfl
    have hwx : wtS wtI xs[i] = wtS wtI xs[i] := by first | rfl | (simp only [wtTab, wtDelta, wtReln, wtStr, wtI]; omega)
    simp [cS, hlt, dSl, ]
    refine call_pure (w_laws_heldIntS xs[i] _ (by omega) (by omega) ((ha.2 _ hmem))) rfl (by simp) rfl fun hs0 hh0 => ?_
    simp at hh0
    by_cases c0 : hlS (hlI) (wtI) xs[i] (k + sumW (wtS wtI) (xs.take i)) = true
    case neg =>
      have c0' : hlS (hlI) (wtI) xs[i] (k + sumW (wtS wtI) (xs.take i)) = false := by simpa using c0
      simp [c0', hbad (by simp [hex, c0'])]
    have hn0 : ¬ k + sumW (wtS wtI) (xs.take i) + (wtS wtI xs[i] : Int) < 0 := by omega
    simp [c0, hn0, hlt, cS, dSl, ]
    simp [hwi]
    refine back (i + 1) ⟨by omega, hstep.trans (hex.trans (by simp [c0]))⟩ (by omega) rfl (by simp <;> omega) ?_ (by simp)
    simp
    omega
  · have hn : i = xs.length := by omega
    subst hn
    have h2 := hi.2
    rw [List.take_length] at h2
    simp [h2]
theorem w_laws_toRelation (a : Reln) (ha : okReln a) (hb : swReln a ≤ 1048576) :
   VC Tryz.prog 62 [.agg ((cReln a).map V.d)] (fun n r => ∃ y : Reln, r = .agg ((cReln y).map V.d) ∧ plReln y = plReln a ∧ okReln y ∧ Good (cReln y) (whReln y) n) := by
  refine VC.of E s62 (by kernel_rfl) Tryz.func62 (by rfl) (by kernel_rfl) (by simp [Tryz.f62]) (by simp [Tryz.f62]) s62_ok fun B => ?_
  have hwt : swReln a = swS (swS swI) a.rows := rfl
  simp [Tryz.f62, cI, cReln, cS, dSl]
  refine call_some (w_laws_toIntSS a.rows ha.2 (by have := hwt; omega)) rfl (by simp) fun n0 hs0 r0 hn0 hm0 hp0 hr0 => ?_
  obtain ⟨y0, rfl, hy0, hk0, hg0⟩ := hp0
  have hl0 : ∀ g ∈ idsL (cS (cS cI) y0), g < hs0 := fun g hg => hr0 g (by first | (simp [cS, V.ids, idsVL, idsL] at hg; done) | simpa [cS, V.ids, idsVL, idsL] using hg)
  simp at hn0
  simp [cS, dSl]
  refine ⟨⟨a.ar, y0⟩, ?_⟩
  refine ⟨by simp [cI, cReln, cS, dSl], by simp only [plReln, hy0], ⟨ha.1, hk0⟩, ?_⟩
  have G0 : Good (cI a.ar) (whI a.ar) B := good_I B a.ar
  have G1 : Good (cS (cS cI) y0) (whS (whS whI) y0) B := hg0.le (by omega)
  have U0 : ∀ g ∈ idsL (cI a.ar), g < B := by simp [cI, idsL, D.ids]
  have K1 : Good (cI a.ar ++ cS (cS cI) y0) ((whI a.ar) ∧ whS (whS whI) y0) B := Good.app G0 G1 (fun g h h' => by have h1 := U0 g h; have h2 := hg0.lo g h'; omega)
  have U1 : ∀ g ∈ idsL (cI a.ar ++ cS (cS cI) y0), g < hs0 := fun g h => by rw [idsL_app] at h; rcases List.mem_append.1 h with h | h; (have h1 := U0 g h; omega); exact hl0 g h
  exact ⟨K1.nd, K1.lo, by have h := K1.wh; exact ⟨h.1, h.2⟩⟩
theorem w_laws_toTable (a : Tab) (ha : okTab a) (hb : swTab a ≤ 1048576) :
   VC Tryz.prog 126 [.agg ((cTab a).map V.d)] (fun n r => ∃ y : Tab, r = .agg ((cTab y).map V.d) ∧ plTab y = plTab a ∧ okTab y ∧ Good (cTab y) (whTab y) n) := by
  refine VC.of E s126 (by kernel_rfl) Tryz.func126 (by rfl) (by kernel_rfl) (by simp [Tryz.f126]) (by simp [Tryz.f126]) s126_ok fun B => ?_
  have hwt : swTab a = swStr a.name + swReln a.rel := rfl
  simp [Tryz.f126, cI, cReln, cS, cStr, cTab, dSl]
  refine call_some (w_laws_toRelation a.rel ha.2 (by have := hwt; omega)) rfl (by simp) fun n0 hs0 r0 hn0 hm0 hp0 hr0 => ?_
  obtain ⟨y0, rfl, hy0, hk0, hg0⟩ := hp0
  have hl0 : ∀ g ∈ idsL (cReln y0), g < hs0 := fun g hg => hr0 g (by first | (simp [cI, cReln, cS, V.ids, idsVL, idsL] at hg; done) | simpa [cI, cReln, cS, V.ids, idsVL, idsL] using hg)
  simp at hn0
  simp [cI, cReln, cS, dSl]
  refine ⟨⟨a.name, y0⟩, ?_⟩
  refine ⟨by simp [cI, cReln, cS, cStr, cTab, dSl], by simp only [plTab, hy0], ⟨ha.1, hk0⟩, ?_⟩
  have G0 : Good (cStr a.name) (whStr a.name) B := good_Str B a.name
  have G1 : Good (cReln y0) (whReln y0) B := hg0.le (by omega)
  have U0 : ∀ g ∈ idsL (cStr a.name), g < B := by simp [cStr, idsL, D.ids]
  have K1 : Good (cStr a.name ++ cReln y0) ((whStr a.name) ∧ whReln y0) B := Good.app G0 G1 (fun g h h' => by have h1 := U0 g h; have h2 := hg0.lo g h'; omega)
  have U1 : ∀ g ∈ idsL (cStr a.name ++ cReln y0), g < hs0 := fun g h => by rw [idsL_app] at h; rcases List.mem_append.1 h with h | h; (have h1 := U0 g h; omega); exact hl0 g h
  exact ⟨K1.nd, K1.lo, by have h := K1.wh; exact ⟨h.1, h.2⟩⟩
theorem w_laws_toTableS (a : Sl (Tab)) (ha : okS okTab a) (hb : swS swTab a ≤ 1048576) :
   VC Tryz.prog 59 [.d (dSl cTab a)] (fun n r => ∃ y : Sl (Tab), r = .d (dSl cTab y) ∧ plS plTab y = plS plTab a ∧ okS okTab y ∧ Good (cS cTab y) (whS whTab y) n) := by
  refine VC.of E s59 (by kernel_rfl) Tryz.func59 (by rfl) (by kernel_rfl) (by simp [Tryz.f59]) (by simp [Tryz.f59]) s59_ok fun B => ?_
  have hwt : swS swTab a = a.xs.length + sumW swTab a.xs := rfl
  simp [Tryz.f59, dSl]
  refine ⟨⟨by omega, by simp only [maxLen]; omega⟩, ?_⟩
  refine loop_rule2 (X := Nat × List (Tab)) (fun p h => p.1 ≤ a.xs.length ∧ p.2.length = p.1 ∧ p.2.map plTab = (a.xs.map plTab).take p.1 ∧ (∀ y ∈ p.2, okTab y) ∧ GoodL cTab whTab B h p.2) (fun p => [(0, .d (.sl a.id a.T (a.xs.map cTab))), (3, .own 7 0 a.xs.length), (4, .d (.int .i64 p.1))]) (fun p => [(7, some (.row 159 3 (p.2.map cTab ++ List.replicate (a.xs.length - p.1) [.str [], .int .i64 0, .sl none none []])))]) (fun p => a.xs.length - p.1) (0, []) ⟨by simp, rfl, by simp, by simp, GoodL.nil⟩ (by simp) (by simp) ?_
  rintro ⟨i, ys⟩ hs t m ⟨hi, hyl, hpl, hok, hgd⟩ hh
  simp only at hi hyl hpl hok hgd
  by_cases hlt : i < a.xs.length
  · have hwi := wr1 (i := i) (by omega)
    have hmem : a.xs[i] ∈ a.xs := List.getElem_mem _
    have hsw := sumW_mem swTab hmem
    simp [cI, cReln, cS, cStr, cTab, hlt]
    refine call_some (w_laws_toTable a.xs[i] (ha.2 _ hmem) (by omega)) rfl (by simp) fun n hs' r hn hn' hp hr => ?_
    obtain ⟨y, rfl, hy1, hy2, hy3⟩ := hp
    simp at hn
    have hr' : ∀ g ∈ idsL (cTab y), g < hs' := fun g hg => hr g (by first | (simp [cI, cReln, cS, cStr, cTab, V.ids, idsVL, idsL] at hg; done) | simpa [cI, cReln, cS, cStr, cTab, V.ids, idsVL, idsL] using hg)
    have hyi : ys.length = i := hyl
    simp [cI, cReln, cS, cStr, cTab, hlt, hwi, hyi, show i + (a.xs.length - i) = a.xs.length by omega, dSl]
    refine back2 (i + 1, ys ++ [y]) ⟨by omega, by simp [hyi], ?_, ?_, ?_⟩ (by simp <;> omega) rfl (by simp <;> omega) (by simp) ?_
    · simp only [List.map_append, hpl, List.map_cons, List.map_nil, hy1]
      rw [List.take_succ_eq_append_getElem (by simpa using hlt)]; simp
    · intro y' hy'
      rcases List.mem_append.1 hy' with h | h
      · exact hok y' h
      · rw [List.mem_singleton.1 h]; exact hy2
    · exact GoodL.snoc hgd (by omega) hn' hy3 hr'
    · simp [rep_set0 hlt, cI, cReln, cS, cStr, cTab, dSl]
  · have hn : i = a.xs.length := by omega
    subst hn
    simp
    intro γ hs' h1 hg
    obtain ⟨q1, q2⟩ := gam_at hg (k := 7) (T := 159) (sz := 3) (es := ys.map cTab) (by simp [upd])
    have q3 := gam_row hg (k := 7) (T := 159) (sz := 3) (es := ys.map cTab) (by simp [upd])
    clear hg
    refine ⟨_, ⟨by omega, rfl⟩, ⟨γ 7, some (159, 3), ys⟩, ?_, by rw [List.take_of_length_le (by simp)] at hpl; exact hpl, ⟨by simp only [maxLen]; show ys.length ≤ _; omega, hok⟩, good_row (fun g hg => (q1 g hg).1) (by simpa using q2) q3 ⟨hgd.nd, hgd.lo⟩ hgd.wh⟩
    rw [if_pos hyl.symm, List.take_of_length_le (by simp [hyl])]
theorem w_laws_toDatabase (a : Db) (ha : okDb a) (hb : swDb a ≤ 1048576) :
   VC Tryz.prog 11 [.agg ((cDb a).map V.d)] (fun n r => ∃ y : Db, r = .agg ((cDb y).map V.d) ∧ plDb y = plDb a ∧ okDb y ∧ Good (cDb y) (whDb y) n) := by
  refine VC.of E s11 (by kernel_rfl) Tryz.func11 (by rfl) (by kernel_rfl) (by simp [Tryz.f11]) (by simp [Tryz.f11]) s11_ok fun B => ?_
  have hwt : swDb a = swS swTab a.tabs := rfl
  simp [Tryz.f11, cDb, cS, dSl]
  refine call_some (w_laws_toTableS a.tabs ha (by have := hwt; omega)) rfl (by simp) fun n0 hs0 r0 hn0 hm0 hp0 hr0 => ?_
  obtain ⟨y0, rfl, hy0, hk0, hg0⟩ := hp0
  have hl0 : ∀ g ∈ idsL (cS cTab y0), g < hs0 := fun g hg => hr0 g (by first | (simp [cS, V.ids, idsVL, idsL] at hg; done) | simpa [cS, V.ids, idsVL, idsL] using hg)
  simp at hn0
  simp [cS, dSl]
  refine ⟨⟨y0⟩, ?_⟩
  refine ⟨by simp [cDb, cS, dSl], by simp only [plDb, hy0], hk0, ?_⟩
  have G0 : Good (cS cTab y0) (whS whTab y0) B := hg0.le (by omega)
  have U0 : ∀ g ∈ idsL (cS cTab y0), g < hs0 := hl0
  exact G0
theorem w_laws_toDelta (a : Delta) (ha : okDelta a) (hb : swDelta a ≤ 1048576) :
   VC Tryz.prog 13 [.agg ((cDelta a).map V.d)] (fun n r => ∃ y : Delta, r = .agg ((cDelta y).map V.d) ∧ plDelta y = plDelta a ∧ okDelta y ∧ Good (cDelta y) (whDelta y) n) := by
  refine VC.of E s13 (by kernel_rfl) Tryz.func13 (by rfl) (by kernel_rfl) (by simp [Tryz.f13]) (by simp [Tryz.f13]) s13_ok fun B => ?_
  have hwt : swDelta a = swStr a.name + swReln a.ins + swReln a.del := rfl
  simp [Tryz.f13, cDelta, cI, cReln, cS, cStr, dSl]
  refine call_some (w_laws_toRelation a.ins ha.2.1 (by have := hwt; omega)) rfl (by simp) fun n0 hs0 r0 hn0 hm0 hp0 hr0 => ?_
  obtain ⟨y0, rfl, hy0, hk0, hg0⟩ := hp0
  have hl0 : ∀ g ∈ idsL (cReln y0), g < hs0 := fun g hg => hr0 g (by first | (simp [cI, cReln, cS, V.ids, idsVL, idsL] at hg; done) | simpa [cI, cReln, cS, V.ids, idsVL, idsL] using hg)
  simp at hn0
  simp [cI, cReln, cS, dSl]
  refine call_some (w_laws_toRelation a.del ha.2.2 (by have := hwt; omega)) rfl (by simp) fun n1 hs1 r1 hn1 hm1 hp1 hr1 => ?_
  obtain ⟨y1, rfl, hy1, hk1, hg1⟩ := hp1
  have hl1 : ∀ g ∈ idsL (cReln y1), g < hs1 := fun g hg => hr1 g (by first | (simp [cI, cReln, cS, V.ids, idsVL, idsL] at hg; done) | simpa [cI, cReln, cS, V.ids, idsVL, idsL] using hg)
  simp at hn1
  simp [cI, cReln, cS, dSl]
  refine ⟨⟨a.name, y0, y1⟩, ?_⟩
  refine ⟨by simp [cDelta, cI, cReln, cS, cStr, dSl], by simp only [plDelta, hy0, hy1], ⟨ha.1, hk0, hk1⟩, ?_⟩
  have G0 : Good (cStr a.name) (whStr a.name) B := good_Str B a.name
  have G1 : Good (cReln y0) (whReln y0) B := hg0.le (by omega)
  have G2 : Good (cReln y1) (whReln y1) B := hg1.le (by omega)
  have U0 : ∀ g ∈ idsL (cStr a.name), g < B := by simp [cStr, idsL, D.ids]
  have K1 : Good (cStr a.name ++ cReln y0) ((whStr a.name) ∧ whReln y0) B := Good.app G0 G1 (fun g h h' => by have h1 := U0 g h; have h2 := hg0.lo g h'; omega)
  have U1 : ∀ g ∈ idsL (cStr a.name ++ cReln y0), g < hs0 := fun g h => by rw [idsL_app] at h; rcases List.mem_append.1 h with h | h; (have h1 := U0 g h; omega); exact hl0 g h
  have K2 : Good (cStr a.name ++ cReln y0 ++ cReln y1) (((whStr a.name) ∧ whReln y0) ∧ whReln y1) B := Good.app K1 G2 (fun g h h' => by have h1 := U1 g h; have h2 := hg1.lo g h'; omega)
  have U2 : ∀ g ∈ idsL (cStr a.name ++ cReln y0 ++ cReln y1), g < hs1 := fun g h => by rw [idsL_app] at h; rcases List.mem_append.1 h with h | h; (have h1 := U1 g h; omega); exact hl1 g h
  exact ⟨K2.nd, K2.lo, by have h := K2.wh; exact ⟨h.1.1, h.1.2, h.2⟩⟩
theorem w_laws_heldCountedRelation (a : Cnt) (k : Int) (h0 : 1 ≤ k) (h1 : k + wtTCnt a ≤ 4611686018427387904) (ha : okCnt a) :
   VC Tryz.prog 23 [.agg ((cCnt a).map V.d), .d (.int .i64 k)] (fun _ r => r = .d (.int .i64 (hv (hlTCnt a k) k (wtTCnt a)))) := by
  refine VC.of E s23 (by kernel_rfl) Tryz.func23 (by rfl) (by kernel_rfl) (by simp [Tryz.f23]) (by simp [Tryz.f23]) s23_ok fun B => ?_
  have hwt : wtTCnt a = wtS (wtS wtI) a.rows + wtS wtI a.cs := rfl
  have hex : hlTCnt a k = (hlS (hlS (hlI) (wtI)) (wtS wtI) a.rows (k) && hlS (hlI) (wtI) a.cs (k + wtS (wtS wtI) a.rows)) := rfl
  simp [Tryz.f23, cCnt, cI, cS, dSl]
  refine call_pure (w_laws_heldIntSS a.rows _ (by omega) (by omega) ha.2.1) rfl (by simp) rfl fun hs0 hh0 => ?_
  by_cases c0 : hlS (hlS (hlI) (wtI)) (wtS wtI) a.rows (k) = true
  case neg =>
    have c0' : hlS (hlS (hlI) (wtI)) (wtS wtI) a.rows (k) = false := by simpa using c0
    simp [c0', hex]
  have hn0 : ¬ k + (wtS (wtS wtI) a.rows : Int) < 0 := by omega
  simp [c0, hn0]
  refine call_pure (w_laws_heldIntS a.cs _ (by omega) (by omega) ha.2.2) rfl (by simp) rfl fun hs1 hh1 => ?_
  by_cases c1 : hlS (hlI) (wtI) a.cs (k + wtS (wtS wtI) a.rows) = true
  case neg =>
    have c1' : hlS (hlI) (wtI) a.cs (k + wtS (wtS wtI) a.rows) = false := by simpa using c1
    simp [c1', hex]
  have hn1 : ¬ k + wtS (wtS wtI) a.rows + (wtS wtI a.cs : Int) < 0 := by omega
  simp [c1, hn1]
  simp [hex, c0, c1, hwt]
  try omega
theorem w_laws_toAtom (a : Atom) (ha : okAtom a) (hb : swAtom a ≤ 1048576) :
   VC Tryz.prog 127 [.agg ((cAtom a).map V.d)] (fun n r => ∃ y : Atom, r = .agg ((cAtom y).map V.d) ∧ plAtom y = plAtom a ∧ okAtom y ∧ Good (cAtom y) (whAtom y) n) := by
  refine VC.of E s127 (by kernel_rfl) Tryz.func127 (by rfl) (by kernel_rfl) (by simp [Tryz.f127]) (by simp [Tryz.f127]) s127_ok fun B => ?_
  have hwt : swAtom a = swStr a.rel + swS swI a.vars := rfl
  simp [Tryz.f127, cAtom, cS, cStr, dSl]
  refine call_some (w_laws_toIntS a.vars ha.2 (by have := hwt; simp only [swS] at this; omega)) rfl (by simp) fun n0 hs0 r0 hn0 hm0 hp0 hr0 => ?_
  obtain ⟨y0, rfl, hy0, hk0, hg0⟩ := hp0
  have hl0 : ∀ g ∈ idsL (cS cI y0), g < hs0 := fun g hg => hr0 g (by first | (simp [cS, V.ids, idsVL, idsL] at hg; done) | simpa [cS, V.ids, idsVL, idsL] using hg)
  simp at hn0
  simp [cS, dSl]
  refine ⟨⟨a.rel, y0⟩, ?_⟩
  refine ⟨by simp [cAtom, cS, cStr, dSl], by simp only [plAtom, hy0], ⟨ha.1, hk0⟩, ?_⟩
  have G0 : Good (cStr a.rel) (whStr a.rel) B := good_Str B a.rel
  have G1 : Good (cS cI y0) (whS whI y0) B := hg0.le (by omega)
  have U0 : ∀ g ∈ idsL (cStr a.rel), g < B := by simp [cStr, idsL, D.ids]
  have K1 : Good (cStr a.rel ++ cS cI y0) ((whStr a.rel) ∧ whS whI y0) B := Good.app G0 G1 (fun g h h' => by have h1 := U0 g h; have h2 := hg0.lo g h'; omega)
  have U1 : ∀ g ∈ idsL (cStr a.rel ++ cS cI y0), g < hs0 := fun g h => by rw [idsL_app] at h; rcases List.mem_append.1 h with h | h; (have h1 := U0 g h; omega); exact hl0 g h
  exact ⟨K1.nd, K1.lo, by have h := K1.wh; exact ⟨h.1, h.2⟩⟩
theorem w_laws_toAtomS (a : Sl (Atom)) (ha : okS okAtom a) (hb : swS swAtom a ≤ 1048576) :
   VC Tryz.prog 60 [.d (dSl cAtom a)] (fun n r => ∃ y : Sl (Atom), r = .d (dSl cAtom y) ∧ plS plAtom y = plS plAtom a ∧ okS okAtom y ∧ Good (cS cAtom y) (whS whAtom y) n) := by
  refine VC.of E s60 (by kernel_rfl) Tryz.func60 (by rfl) (by kernel_rfl) (by simp [Tryz.f60]) (by simp [Tryz.f60]) s60_ok fun B => ?_
  have hwt : swS swAtom a = a.xs.length + sumW swAtom a.xs := rfl
  simp [Tryz.f60, dSl]
  refine ⟨⟨by omega, by simp only [maxLen]; omega⟩, ?_⟩
  refine loop_rule2 (X := Nat × List (Atom)) (fun p h => p.1 ≤ a.xs.length ∧ p.2.length = p.1 ∧ p.2.map plAtom = (a.xs.map plAtom).take p.1 ∧ (∀ y ∈ p.2, okAtom y) ∧ GoodL cAtom whAtom B h p.2) (fun p => [(0, .d (.sl a.id a.T (a.xs.map cAtom))), (3, .own 7 0 a.xs.length), (4, .d (.int .i64 p.1))]) (fun p => [(7, some (.row 102 2 (p.2.map cAtom ++ List.replicate (a.xs.length - p.1) [.str [], .sl none none []])))]) (fun p => a.xs.length - p.1) (0, []) ⟨by simp, rfl, by simp, by simp, GoodL.nil⟩ (by simp) (by simp) ?_
  rintro ⟨i, ys⟩ hs t m ⟨hi, hyl, hpl, hok, hgd⟩ hh
  simp only at hi hyl hpl hok hgd
  by_cases hlt : i < a.xs.length
  · have hwi := wr1 (i := i) (by omega)
    have hmem : a.xs[i] ∈ a.xs := List.getElem_mem _
    have hsw := sumW_mem swAtom hmem
    simp [cAtom, cS, cStr, hlt]
    refine call_some (w_laws_toAtom a.xs[i] (ha.2 _ hmem) (by omega)) rfl (by simp) fun n hs' r hn hn' hp hr => ?_
    obtain ⟨y, rfl, hy1, hy2, hy3⟩ := hp
    simp at hn
    have hr' : ∀ g ∈ idsL (cAtom y), g < hs' := fun g hg => hr g (by first | (simp [cAtom, cS, cStr, V.ids, idsVL, idsL] at hg; done) | simpa [cAtom, cS, cStr, V.ids, idsVL, idsL] using hg)
    have hyi : ys.length = i := hyl
    simp [cAtom, cS, cStr, hlt, hwi, hyi, show i + (a.xs.length - i) = a.xs.length by omega, dSl]
    refine back2 (i + 1, ys ++ [y]) ⟨by omega, by simp [hyi], ?_, ?_, ?_⟩ (by simp <;> omega) rfl (by simp <;> omega) (by simp) ?_
    · simp only [List.map_append, hpl, List.map_cons, List.map_nil, hy1]
      rw [List.take_succ_eq_append_getElem (by simpa using hlt)]; simp
    · intro y' hy'
      rcases List.mem_append.1 hy' with h | h
      · exact hok y' h
      · rw [List.mem_singleton.1 h]; exact hy2
    · exact GoodL.snoc hgd (by omega) hn' hy3 hr'
    · simp [rep_set0 hlt, cAtom, cS, cStr, dSl]
  · have hn : i = a.xs.length := by omega
    subst hn
    simp
    intro γ hs' h1 hg
    obtain ⟨q1, q2⟩ := gam_at hg (k := 7) (T := 102) (sz := 2) (es := ys.map cAtom) (by simp [upd])
    have q3 := gam_row hg (k := 7) (T := 102) (sz := 2) (es := ys.map cAtom) (by simp [upd])
    clear hg
    refine ⟨_, ⟨by omega, rfl⟩, ⟨γ 7, some (102, 2), ys⟩, ?_, by rw [List.take_of_length_le (by simp)] at hpl; exact hpl, ⟨by simp only [maxLen]; show ys.length ≤ _; omega, hok⟩, good_row (fun g hg => (q1 g hg).1) (by simpa using q2) q3 ⟨hgd.nd, hgd.lo⟩ hgd.wh⟩
    rw [if_pos hyl.symm, List.take_of_length_le (by simp [hyl])]
theorem w_laws_toQuery (a : Query) (ha : okQuery a) (hb : swQuery a ≤ 1048576) :
   VC Tryz.prog 12 [.agg ((cQuery a).map V.d)] (fun n r => ∃ y : Query, r = .agg ((cQuery y).map V.d) ∧ plQuery y = plQuery a ∧ okQuery y ∧ Good (cQuery y) (whQuery y) n) := by
  refine VC.of E s12 (by kernel_rfl) Tryz.func12 (by rfl) (by kernel_rfl) (by simp [Tryz.f12]) (by simp [Tryz.f12]) s12_ok fun B => ?_
  have hwt : swQuery a = swS swAtom a.atoms + swS swI a.out := rfl
  simp [Tryz.f12, cI, cQuery, cS, dSl]
  refine call_some (w_laws_toAtomS a.atoms ha.2.1 (by have := hwt; omega)) rfl (by simp) fun n0 hs0 r0 hn0 hm0 hp0 hr0 => ?_
  obtain ⟨y0, rfl, hy0, hk0, hg0⟩ := hp0
  have hl0 : ∀ g ∈ idsL (cS cAtom y0), g < hs0 := fun g hg => hr0 g (by first | (simp [cS, V.ids, idsVL, idsL] at hg; done) | simpa [cS, V.ids, idsVL, idsL] using hg)
  simp at hn0
  simp [cS, dSl]
  refine call_some (w_laws_toIntS a.out ha.2.2 (by have := hwt; simp only [swS] at this; omega)) rfl (by simp) fun n1 hs1 r1 hn1 hm1 hp1 hr1 => ?_
  obtain ⟨y1, rfl, hy1, hk1, hg1⟩ := hp1
  have hl1 : ∀ g ∈ idsL (cS cI y1), g < hs1 := fun g hg => hr1 g (by first | (simp [cS, V.ids, idsVL, idsL] at hg; done) | simpa [cS, V.ids, idsVL, idsL] using hg)
  simp at hn1
  simp [cS, dSl]
  refine ⟨⟨a.n, y0, y1⟩, ?_⟩
  refine ⟨by simp [cI, cQuery, cS, dSl], by simp only [plQuery, hy0, hy1], ⟨ha.1, hk0, hk1⟩, ?_⟩
  have G0 : Good (cI a.n) (whI a.n) B := good_I B a.n
  have G1 : Good (cS cAtom y0) (whS whAtom y0) B := hg0.le (by omega)
  have G2 : Good (cS cI y1) (whS whI y1) B := hg1.le (by omega)
  have U0 : ∀ g ∈ idsL (cI a.n), g < B := by simp [cI, idsL, D.ids]
  have K1 : Good (cI a.n ++ cS cAtom y0) ((whI a.n) ∧ whS whAtom y0) B := Good.app G0 G1 (fun g h h' => by have h1 := U0 g h; have h2 := hg0.lo g h'; omega)
  have U1 : ∀ g ∈ idsL (cI a.n ++ cS cAtom y0), g < hs0 := fun g h => by rw [idsL_app] at h; rcases List.mem_append.1 h with h | h; (have h1 := U0 g h; omega); exact hl0 g h
  have K2 : Good (cI a.n ++ cS cAtom y0 ++ cS cI y1) (((whI a.n) ∧ whS whAtom y0) ∧ whS whI y1) B := Good.app K1 G2 (fun g h h' => by have h1 := U1 g h; have h2 := hg1.lo g h'; omega)
  have U2 : ∀ g ∈ idsL (cI a.n ++ cS cAtom y0 ++ cS cI y1), g < hs1 := fun g h => by rw [idsL_app] at h; rcases List.mem_append.1 h with h | h; (have h1 := U1 g h; omega); exact hl1 g h
  exact ⟨K2.nd, K2.lo, by have h := K2.wh; exact ⟨h.1.1, h.1.2, h.2⟩⟩

end Go.Proofs.YtdnbigokdclclaaGreat


namespace Go.Proofs.YtdnbigokdclclaaGreat
open Go.Vs Go.Proofs Go
set_option maxRecDepth 100000
set_option maxHeartbeats 1000000

theorem w_laws_markIntS (a : Ints) (k : Int) (h0 : 1 ≤ k) (h1 : k + wtS wtI a ≤ 4611686018427387904) (hw : whS whI a) (hl0 : okS okI a) (hnd : (dInts a).ids.Nodup) :
   VX Tryz.prog 83 (dInts a).ids [.d (dInts a), .d (.int .i64 k)] none (fun _ r _ ws => r = .d (.int .i64 (k + wtS wtI a)) ∧ ws = [dInts (mkS mkI wtI a k)]) := by
  refine VX.of E s83 (by kernel_rfl) Tryz.func83 (by rfl) (by kernel_rfl) (by simp [Tryz.f83]) (by simp [Tryz.f83]) s83_ok (fun g hg => .inl (by simpa using hg)) (fun cs h => nomatch h) fun B hB => ?_
  have hl := hl0.1
  obtain ⟨id, T, xs⟩ := a
  have hwt : wtS wtI (⟨id, T, xs⟩ : Ints) = xs.length := sumW_one (fun _ => rfl) xs
  rw [hwt] at h1 ⊢
  simp only [maxLen] at hl
  simp [Tryz.f83]
  refine loop_rule (X := Nat) (fun i => i ≤ xs.length) (fun i => [(0, .d (dInts ⟨id, T, mkAt mkI wtI xs k i⟩)), (1, .d (.int .i64 (k + i))), (5, .d (.int .i64 i))]) (fun _ => []) (fun i => xs.length - i) 0 (by simp) (by simp) (by simp) ?_
  intro i hs t m hi hh
  by_cases hlt : i < xs.length
  · obtain ⟨g, hg, T', hT⟩ := hw.1.id hlt
    simp only at hg hT
    subst hg hT
    have hk := wr1 (i := i) (by omega)
    have hk2 : IntKind.i64.wrap (k + i + 1) = k + i + 1 := wrap64_of (by omega) (by omega)
    simp [dInts, dSl, hlt, hk, hk2, cI]
    refine back (i + 1) (by omega) (by omega) rfl (by simp) ?_ (by simp)
    have e1 : (List.map cI (mkAt mkI wtI xs k i)).set i [D.int IntKind.i64 (k + ↑i)] = List.map cI (mkAt mkI wtI xs k (i + 1)) := by
      rw [mkAt_succ hlt, ← set_map, show sumW wtI (List.take i xs) = _ from sumW_one (fun _ => rfl) _]
      simp [cI, mkI, Nat.min_eq_left hi]
    have e2 := re_oneSet (g := g) (T := T') (es := List.map cI (mkAt mkI wtI xs k i)) (i := i) (e' := [D.int IntKind.i64 (k + ↑i)]) (fun e he => by
      rw [List.getElem?_map] at he
      simp [hlt] at he
      rw [← he]; rfl)
    rw [e1] at e2
    simp [e1, e2]
    omega
  · have hn : i = xs.length := by omega
    subst hn
    simp [dInts, dSl, vendX]
    refine ⟨[0], fun γ hs' h1 h2 => ?_⟩
    simp [mkS, mkAt_all]

theorem w_laws_markIntSS (a : Sl Ints) (k : Int) (h0 : 1 ≤ k) (h1 : k + wtS (wtS wtI) a ≤ 4611686018427387904) (hw : whS (whS whI) a) (hl : okS (okS okI) a) (hnd : (dRows a).ids.Nodup) :
   VX Tryz.prog 85 (dRows a).ids [.d (dRows a), .d (.int .i64 k)] none (fun _ r _ ws => r = .d (.int .i64 (k + wtS (wtS wtI) a)) ∧ ws = [dRows (mkS (mkS mkI wtI) (wtS wtI) a k)]) := by
  refine VX.of E s85 (by kernel_rfl) Tryz.func85 (by rfl) (by kernel_rfl) (by simp [Tryz.f85]) (by simp [Tryz.f85]) s85_ok (fun g hg => .inl (by simpa using hg)) (fun cs h => nomatch h) fun B hB => ?_
  obtain ⟨id, T, xs⟩ := a
  have hl1 := hl.1
  simp only [maxLen] at hl1
  have hwt : wtS (wtS wtI) (⟨id, T, xs⟩ : Sl Ints) = sumW (wtS wtI) xs := rfl
  rw [hwt] at h1 ⊢
  simp [Tryz.f85]
  refine loop_rule (X := Nat) (fun i => i ≤ xs.length) (fun i => [(0, .d (dSl (cS cI) ⟨id, T, mkAt (mkS mkI wtI) (wtS wtI) xs k i⟩)), (1, .d (.int .i64 (k + sumW (wtS wtI) (xs.take i)))), (5, .d (.int .i64 i))]) (fun _ => []) (fun i => xs.length - i) 0 (by simp) (by simp) (by simp) ?_
  intro i hs t m hi hh
  by_cases hlt : i < xs.length
  · have hk := wr1 (i := i) (by omega)
    have e1 := sumW_succ (wtS wtI) hlt
    have e2 := sumW_le (wtS wtI) xs (i + 1)
    have hmem : xs[i] ∈ xs := List.getElem_mem _
    simp [dSl, hlt, cS]
    refine call_x (E83) (by simp [dSl]) (by simp) (by simp) (fun g hg => .inr ?_) (w_laws_markIntS xs[i] (k + sumW (wtS wtI) (xs.take i)) (by omega) (by omega) (hw.2 _ hmem) (hl.2 _ hmem) (by have := elem_nd (sl_nd hnd).1 hlt; rwa [idsL_cS] at this)) fun n hs' r cs' ws hn hn' hp hr hws => ?_
    · exact elem_ids (s := ⟨id, T, xs⟩) (c := cS cI) (i := i) hlt (by simpa [cS, idsL] using hg)
    obtain ⟨rfl, rfl⟩ := hp
    simp at hn
    have hnd' : (dSl (cS cI) (⟨id, T, mkAt (mkS mkI wtI) (wtS wtI) xs k i⟩ : Sl Ints)).ids.Nodup := by
      have : (dSl (cS cI) (⟨id, T, mkAt (mkS mkI wtI) (wtS wtI) xs k i⟩ : Sl Ints)).ids = (dRows ⟨id, T, xs⟩).ids := by
        simp only [dSl, D.ids]; rw [ids_mkAt (marksS marksI).ids]
      rw [this]; exact hnd
    have e3 := re_elem (c := cS cI) (s := ⟨id, T, mkAt (mkS mkI wtI) (wtS wtI) xs k i⟩) (i := i) (a' := mkS mkI wtI xs[i] (k + sumW (wtS wtI) (xs.take i))) (W := (dInts xs[i]).ids) (ws := [dInts (mkS mkI wtI xs[i] (k + sumW (wtS wtI) (xs.take i)))]) hnd' (by simpa using hlt)
      (fun g hg => by simpa [cS, idsL] using hg) (by simp only [mkAt_get]; exact reL_one (re_root (by simp [cI]) (hw.2 _ hmem).1 (by simp) (fun g hg => mem_slids hg) []))
    simp [dSl, cS, hk] at e3 ⊢
    refine back (i + 1) (by omega) (by omega) rfl (by simp <;> omega) ?_ (by simp)
    simp [e3, mkAt_succ hlt, e1]
    exact ⟨rfl, by omega⟩
  · have hn : i = xs.length := by omega
    subst hn
    simp [dSl, vendX]
    refine ⟨[0], fun γ hs' h1 h2 => ?_⟩
    simp [mkS, mkAt_all]

end Go.Proofs.YtdnbigokdclclaaGreat


namespace Go.Proofs.YtdnbigokdclclaaGreat
open Go.Vs Go.Proofs Go
set_option maxRecDepth 100000
set_option maxHeartbeats 1000000

theorem simT_Reln {a : Reln} (hw : whReln a) (k : Int) : Sim (cReln a) (cReln (mkTReln a k)) := (Sim.leaf (by simp [D.ids]) Sim.nil).app (sim_mk (marksS marksI) hw.2 (k))
theorem w_laws_markRelation (a : Reln) (k : Int) (h0 : 1 ≤ k) (h1 : k + wtTReln a ≤ 4611686018427387904) (hw : whReln a) (hl : okReln a) (hnd : (idsL (cReln a)).Nodup) :
   VX Tryz.prog 84 (idsL (cReln a)) [.agg ((cReln a).map V.d), .d (.int .i64 k)] none (fun _ r _ ws => r = .d (.int .i64 (k + wtTReln a)) ∧ ws = cReln (mkTReln a k)) := by
  refine VX.of E s84 (by kernel_rfl) Tryz.func84 (by rfl) (by kernel_rfl) (by simp [Tryz.f84]) (by simp [Tryz.f84]) s84_ok ?_ ?_ fun B hB => ?_
  · exact fun g hg => .inl (by simpa [idsVL, V.ids, idsVL_map_d] using hg)
  · exact fun cs h => nomatch h
  have hwt : wtTReln a = wtS (wtS wtI) a.rows := rfl
  have hnd0 := hnd
  simp only [cReln, idsL_app] at hnd0
  have nd0 : (idsL (cI a.ar)).Nodup := nd_left (hnd0)
  have nd1 : (idsL (cS (cS cI) a.rows)).Nodup := nd_right (hnd0)
  have dj0_1 : ∀ g ∈ idsL (cI a.ar), g ∉ idsL (cS (cS cI) a.rows) := fun g hg => nd_disj (hnd0) g (hg)
  simp [Tryz.f84, cI, cReln, cS]
  refine call_x (E85) (by simp) (by simp) (by simp) (fun q hq => .inr ?_) (w_laws_markIntSS a.rows (k) (by omega) (by omega) (hw.2) (hl.2) (by rw [← idsL_cS]; exact nd1)) fun n0 hs0 r cs' ws hn0 hm0 hp hr hws => ?_
  · simp only [idsL_app, idsL, List.append_nil, List.nil_append, List.append_assoc, List.mem_append, cI, cReln, cS] at hq ⊢
    first | (simp [hq]; done) | (simp [D.ids] at hq ⊢; grind)
  obtain ⟨rfl, rfl⟩ := hp
  simp at hn0
  have hre0 : reL (phi ((dSl (cS cI) a.rows).ids) [dSl (cS cI) (mkS (mkS (mkI) (wtI)) (wtS wtI) a.rows (k))]) (cS (cS cI) a.rows) = some (cS (cS cI) (mkS (mkS (mkI) (wtI)) (wtS wtI) a.rows (k))) := by
    have := re_sim (sim_mk (marksS marksI) hw.2 (k)) ((marksS (marksS marksI)).ids _ _) nd1
    rw [idsL_cS] at this
    exact this
  replace hre0 := reVL_map hre0
  simp only [cI, cReln, cS, List.cons_append, List.nil_append, List.map_cons, List.map_nil, reVL_cons, reVL_nil, List.cons.injEq, and_true, reV_int, reV_str, true_and] at hre0
  simp [hre0, cI, cReln, cS]
  simp [vendX]
  refine ⟨[0], fun γ hs' h1 h2 => ?_⟩
  simp [isD, dD, hwt, mkTReln, cI, cReln, cS, reD]
  try omega
theorem w_laws_markTableS (a : Sl (Tab)) (k : Int) (h0 : 1 ≤ k) (h1 : k + wtS wtTab a ≤ 4611686018427387904) (hw : whS whTab a) (hl : okS okTab a) (hnd : (dSl cTab a).ids.Nodup) :
   VX Tryz.prog 81 (dSl cTab a).ids [.d (dSl cTab a), .d (.int .i64 k)] none (fun _ r _ ws => r = .d (.int .i64 (k + wtS wtTab a)) ∧ ws = [dSl cTab (mkS (mkTab) (wtTab) a k)]) := by
  refine VX.of E s81 (by kernel_rfl) Tryz.func81 (by rfl) (by kernel_rfl) (by simp [Tryz.f81]) (by simp [Tryz.f81]) s81_ok ?_ ?_ fun B hB => ?_
  · exact fun g hg => .inl (by simpa using hg)
  · exact fun cs h => nomatch h
  obtain ⟨id, T, xs⟩ := a
  have hl1 := hl.1
  simp only [maxLen] at hl1
  have hwt : wtS wtTab (⟨id, T, xs⟩ : Sl (Tab)) = sumW wtTab xs := rfl
  rw [hwt] at h1 ⊢
  simp [Tryz.f81]
  refine loop_rule (X := Nat) (fun i => i ≤ xs.length) (fun i => [(0, .d (dSl cTab ⟨id, T, mkAt mkTab wtTab xs k i⟩)), (1, .d (.int .i64 (k + sumW wtTab (xs.take i)))), (5, .d (.int .i64 i))]) (fun _ => []) (fun i => xs.length - i) 0 (by simp) (by simp) (by simp) ?_
  intro i hs t m hi hh
  by_cases hlt : i < xs.length
  · have hwi := wr1 (i := i) (by omega)
    have e1 := sumW_succ wtTab hlt
    have e2 := sumW_le wtTab xs (i + 1)
    have hmem : xs[i] ∈ xs := List.getElem_mem _
    have hwx : wtTab xs[i] = 1 + 1 + wtS (wtS wtI) xs[i].rel.rows := by simp only [wtI, wtReln, wtStr, wtTab] <;> omega
    obtain ⟨g, hg, T', hT⟩ := hw.1.id hlt
    simp only at hg hT
    subst hg hT
    have hnd2 := sl_nd hnd
    have hnn : g ∉ idsLL ((mkAt mkTab wtTab xs k i).map cTab) := by rw [ids_mkAt marksTab.ids]; exact hnd2.2 g rfl
    have hni : g ∉ idsL (cTab xs[i]) := fun hin => hnd2.2 g rfl (idsLL_map_mem.2 ⟨_, hmem, hin⟩)
    have hne := elem_nd hnd2.1 hlt
    have hni0 := hni
    have hne0 := hne
    have hap : ∀ W : List Nat, (∀ q ∈ W, q ∈ idsL (cTab xs[i])) → ∀ ws (j : Nat) (e : List D), j ≠ i → ((mkAt mkTab wtTab xs k i).map cTab)[j]? = some e → ∀ q ∈ idsL e, phi W ws q = none := by
      intro W hW ws
      exact nd_mapD (by rw [ids_mkAt marksTab.ids]; exact hnd2.1) (i := i) (by simpa using hlt) (by simpa using hW) ws
    simp only [cI, cReln, cS, cStr, cTab, idsL_app, idsL, D.ids, dSl, List.append_nil, List.nil_append, List.cons_append, List.mem_append, not_or, List.append_assoc] at hni hne
    simp [dSl, hlt]
    have hk0 : IntKind.i64.wrap (k + sumW wtTab (xs.take i) + 1) = k + sumW wtTab (xs.take i) + 1 := wrap64_of (by omega) (by omega)
    refine call_pure (w_laws_markText _ (by omega) (by omega)) rfl (by simp) rfl fun hs0 hh0 => ?_
    simp at hh0
    simp [dSl, hlt, cI, cReln, cS, cStr, cTab, hnn, nin_set hnn, idsL, D.ids, hni, hk0, hwi, ids_mk (wt := (wtS wtI)) (marksS marksI).ids]
    have hk1 : IntKind.i64.wrap (k + sumW wtTab (xs.take i) + 1 + 1) = k + sumW wtTab (xs.take i) + 1 + 1 := wrap64_of (by omega) (by omega)
    simp [dSl, hlt, cI, cReln, cS, cStr, cTab, hnn, nin_set hnn, idsL, D.ids, hni, hk1, hwi, ids_mk (wt := (wtS wtI)) (marksS marksI).ids]
    have hx2 : dSl (cS cI) xs[i].rel.rows ∈ cTab xs[i] := by simp [cI, cReln, cS, cStr, cTab]
    refine call_x (E85) (by simp [dSl]) (by simp) (by simp) (fun q hq => .inr ?_) (w_laws_markIntSS xs[i].rel.rows (k + sumW wtTab (xs.take i) + 1 + 1) (by omega) (by omega) ((hw.2 _ hmem).2.2) ((hl.2 _ hmem).2.2) (nd_mem hne0 hx2)) fun n2 hs2 r cs' ws hn2 hm2 hp hr hws => ?_
    · exact elem_ids (s := ⟨some g, some T', xs⟩) (c := cTab) (i := i) hlt (mem_idsL hx2 hq)
    obtain ⟨rfl, rfl⟩ := hp
    simp at hn2
    have hre2 : reL (phi (dSl (cS cI) xs[i].rel.rows).ids [dSl (cS cI) (mkS (mkS (mkI) (wtI)) (wtS wtI) xs[i].rel.rows (k + sumW wtTab (xs.take i) + 1 + 1))]) [D.str (mtext (k + sumW wtTab (xs.take i))), D.int .i64 (k + sumW wtTab (xs.take i) + 1), dSl (cS cI) xs[i].rel.rows] = some [D.str (mtext (k + sumW wtTab (xs.take i))), D.int .i64 (k + sumW wtTab (xs.take i) + 1), dSl (cS cI) (mkS (mkS (mkI) (wtI)) (wtS wtI) xs[i].rel.rows (k + sumW wtTab (xs.take i) + 1 + 1))] := reL_cons_iff.2 ⟨rfl, reL_cons_iff.2 ⟨rfl, reL_cons_iff.2 ⟨re_root (marksS marksI).len ((hw.2 _ hmem).2.2).1 (by simp) (fun g hg => mem_slids hg) [], rfl⟩⟩⟩
    have hse2 := re_elemD (g := g) (T := some T') (es := (mkAt mkTab wtTab xs k i).map cTab) (phi_out (W := (dSl (cS cI) xs[i].rel.rows).ids) (ws := [dSl (cS cI) (mkS (mkS (mkI) (wtI)) (wtS wtI) xs[i].rel.rows (k + sumW wtTab (xs.take i) + 1 + 1))]) (g := g) (fun h => hni0 (mem_idsL hx2 h))) hre2 (hap _ (fun q hq => mem_idsL hx2 hq) _)
    simp [dSl, cI, cReln, cS, cStr, cTab, mkS] at hse2 ⊢
    simp [hse2, hlt, hnn, nin_set hnn, idsL, D.ids, hni, hwi, mkS, ids_mk (wt := (wtS wtI)) (marksS marksI).ids]
    refine back (i + 1) (by omega) (by omega) rfl (by simp <;> omega) ?_ (by simp)
    simp [mkAt_succ hlt, e1, cI, cReln, cS, cStr, cTab, dSl]
    first
    | exact ⟨rfl, by omega⟩
    | (refine ⟨?_, by omega⟩; simp [mkI, mkReln, mkStr, mkTab, wtI, wtReln, wtStr, wtTab, mkS, Int.add_assoc, show ∀ x : Int, 1 + (1 + x) = 2 + x from fun x => by omega])
  · have hn : i = xs.length := by omega
    subst hn
    simp [dSl, vendX]
    refine ⟨[0], fun γ hs' h1 h2 => ?_⟩
    simp [mkS, mkAt_all]
theorem simT_Db {a : Db} (hw : whDb a) (k : Int) : Sim (cDb a) (cDb (mkTDb a k)) := sim_mk marksTab hw (k)
theorem w_laws_markDatabase (a : Db) (k : Int) (h0 : 1 ≤ k) (h1 : k + wtTDb a ≤ 4611686018427387904) (hw : whDb a) (hl : okDb a) (hnd : (idsL (cDb a)).Nodup) :
   VX Tryz.prog 19 (idsL (cDb a)) [.agg ((cDb a).map V.d), .d (.int .i64 k)] none (fun _ r _ ws => r = .d (.int .i64 (k + wtTDb a)) ∧ ws = cDb (mkTDb a k)) := by
  refine VX.of E s19 (by kernel_rfl) Tryz.func19 (by rfl) (by kernel_rfl) (by simp [Tryz.f19]) (by simp [Tryz.f19]) s19_ok ?_ ?_ fun B hB => ?_
  · exact fun g hg => .inl (by simpa [idsVL, V.ids, idsVL_map_d] using hg)
  · exact fun cs h => nomatch h
  have hwt : wtTDb a = wtS wtTab a.tabs := rfl
  have hnd0 := hnd
  simp only [cDb, idsL_app] at hnd0
  have nd0 : (idsL (cS cTab a.tabs)).Nodup := hnd0
  simp [Tryz.f19, cDb, cS]
  refine call_x (E81) (by simp) (by simp) (by simp) (fun q hq => .inr ?_) (w_laws_markTableS a.tabs (k) (by omega) (by omega) (hw) (hl) (by rw [← idsL_cS]; exact nd0)) fun n0 hs0 r cs' ws hn0 hm0 hp hr hws => ?_
  · simp only [idsL_app, idsL, List.append_nil, List.nil_append, List.append_assoc, List.mem_append, cDb, cS] at hq ⊢
    first | (simp [hq]; done) | (simp [D.ids] at hq ⊢; grind)
  obtain ⟨rfl, rfl⟩ := hp
  simp at hn0
  have hre0 : reL (phi ((dSl cTab a.tabs).ids) [dSl cTab (mkS (mkTab) (wtTab) a.tabs (k))]) (cS cTab a.tabs) = some (cS cTab (mkS (mkTab) (wtTab) a.tabs (k))) := by
    have := re_sim (sim_mk marksTab hw (k)) ((marksS marksTab).ids _ _) nd0
    rw [idsL_cS] at this
    exact this
  replace hre0 := reVL_map hre0
  simp only [cDb, cS, List.cons_append, List.nil_append, List.map_cons, List.map_nil, reVL_cons, reVL_nil, List.cons.injEq, and_true, reV_int, reV_str, true_and] at hre0
  simp [hre0, cDb, cS]
  simp [vendX]
  refine ⟨[0], fun γ hs' h1 h2 => ?_⟩
  simp [isD, dD, hwt, mkTDb, cDb, cS, reD]
  try omega
theorem simT_Delta {a : Delta} (hw : whDelta a) (k : Int) : Sim (cDelta a) (cDelta (mkTDelta a k)) := ((Sim.leaf (by simp [D.ids]) Sim.nil).app (simT_Reln hw.2.1 (k))).app (simT_Reln hw.2.2 (k + wtTReln a.ins))
theorem w_laws_markDelta (a : Delta) (k : Int) (h0 : 1 ≤ k) (h1 : k + wtTDelta a ≤ 4611686018427387904) (hw : whDelta a) (hl : okDelta a) (hnd : (idsL (cDelta a)).Nodup) :
   VX Tryz.prog 21 (idsL (cDelta a)) [.agg ((cDelta a).map V.d), .d (.int .i64 k)] none (fun _ r _ ws => r = .d (.int .i64 (k + wtTDelta a)) ∧ ws = cDelta (mkTDelta a k)) := by
  refine VX.of E s21 (by kernel_rfl) Tryz.func21 (by rfl) (by kernel_rfl) (by simp [Tryz.f21]) (by simp [Tryz.f21]) s21_ok ?_ ?_ fun B hB => ?_
  · exact fun g hg => .inl (by simpa [idsVL, V.ids, idsVL_map_d] using hg)
  · exact fun cs h => nomatch h
  have hwt : wtTDelta a = wtTReln a.ins + wtTReln a.del := rfl
  have hnd0 := hnd
  simp only [cDelta, idsL_app] at hnd0
  have nd0 : (idsL (cStr a.name)).Nodup := nd_left (nd_left (hnd0))
  have nd1 : (idsL (cReln a.ins)).Nodup := nd_right (nd_left (hnd0))
  have nd2 : (idsL (cReln a.del)).Nodup := nd_right (hnd0)
  have dj0_1 : ∀ g ∈ idsL (cStr a.name), g ∉ idsL (cReln a.ins) := fun g hg => nd_disj (nd_left (hnd0)) g (hg)
  have dj0_2 : ∀ g ∈ idsL (cStr a.name), g ∉ idsL (cReln a.del) := fun g hg => nd_disj (hnd0) g (List.mem_append_left _ (hg))
  have dj1_2 : ∀ g ∈ idsL (cReln a.ins), g ∉ idsL (cReln a.del) := fun g hg => nd_disj (hnd0) g (List.mem_append_right _ hg)
  simp [Tryz.f21, cDelta, cI, cReln, cS, cStr]
  refine call_x (E84) (by simp) (by simp) (by simp) (fun q hq => .inr ?_) (w_laws_markRelation a.ins (k) (by omega) (by omega) (hw.2.1) (hl.2.1) nd1) fun n0 hs0 r cs' ws hn0 hm0 hp hr hws => ?_
  · simp only [idsL_app, idsL, List.append_nil, List.nil_append, List.append_assoc, List.mem_append, cDelta, cI, cReln, cS, cStr] at hq ⊢
    first | (simp [hq]; done) | (simp [D.ids] at hq ⊢; grind)
  obtain ⟨rfl, rfl⟩ := hp
  simp at hn0
  have hre0 : reL (phi (idsL (cReln a.ins)) (cReln (mkTReln a.ins (k)))) (cReln a.ins) = some (cReln (mkTReln a.ins (k))) := re_sim (simT_Reln hw.2.1 (k)) (marksTReln.ids _ _) nd1
  have ho0_2 : reL (phi (idsL (cReln a.ins)) (cReln (mkTReln a.ins (k)))) (cReln a.del) = some (cReln a.del) := re_same fun g hg => by
    skip
    skip
    exact dj1_2 g hg
  replace hre0 := reVL_map hre0
  replace ho0_2 := reVL_map ho0_2
  simp only [cDelta, cI, cReln, cS, cStr, List.cons_append, List.nil_append, List.map_cons, List.map_nil, reVL_cons, reVL_nil, List.cons.injEq, and_true, reV_int, reV_str, true_and, mkTReln] at hre0 ho0_2
  simp [hre0, ho0_2, cDelta, cI, cReln, cS, cStr, mkTReln]
  refine call_x (E84) (by simp) (by simp) (by simp) (fun q hq => .inr ?_) (w_laws_markRelation a.del (k + wtTReln a.ins) (by omega) (by omega) (hw.2.2) (hl.2.2) nd2) fun n1 hs1 r cs' ws hn1 hm1 hp hr hws => ?_
  · simp only [idsL_app, idsL, List.append_nil, List.nil_append, List.append_assoc, List.mem_append, cDelta, cI, cReln, cS, cStr] at hq ⊢
    first | (simp [hq]; done) | (simp [D.ids] at hq ⊢; grind)
  obtain ⟨rfl, rfl⟩ := hp
  simp at hn1
  have hre1 : reL (phi (idsL (cReln a.del)) (cReln (mkTReln a.del (k + wtTReln a.ins)))) (cReln a.del) = some (cReln (mkTReln a.del (k + wtTReln a.ins))) := re_sim (simT_Reln hw.2.2 (k + wtTReln a.ins)) (marksTReln.ids _ _) nd2
  have ho1_1 : reL (phi (idsL (cReln a.del)) (cReln (mkTReln a.del (k + wtTReln a.ins)))) (cReln (mkTReln a.ins (k))) = some (cReln (mkTReln a.ins (k))) := re_same fun g hg => by
    skip
    rw [marksTReln.ids]
    exact (fun h => dj1_2 g h hg)
  replace hre1 := reVL_map hre1
  replace ho1_1 := reVL_map ho1_1
  simp only [cDelta, cI, cReln, cS, cStr, List.cons_append, List.nil_append, List.map_cons, List.map_nil, reVL_cons, reVL_nil, List.cons.injEq, and_true, reV_int, reV_str, true_and, mkTReln] at hre1 ho1_1
  simp [hre1, ho1_1, cDelta, cI, cReln, cS, cStr, mkTReln]
  simp [vendX]
  refine ⟨[0], fun γ hs' h1 h2 => ?_⟩
  simp [isD, dD, hwt, mkTDelta, mkTReln, cDelta, cI, cReln, cS, cStr, reD]
  try omega
theorem simT_Cnt {a : Cnt} (hw : whCnt a) (k : Int) : Sim (cCnt a) (cCnt (mkTCnt a k)) := ((Sim.leaf (by simp [D.ids]) Sim.nil).app (sim_mk (marksS marksI) hw.2.1 (k))).app (sim_mk marksI hw.2.2 (k + wtS (wtS wtI) a.rows))
theorem w_laws_markCountedRelation (a : Cnt) (k : Int) (h0 : 1 ≤ k) (h1 : k + wtTCnt a ≤ 4611686018427387904) (hw : whCnt a) (hl : okCnt a) (hnd : (idsL (cCnt a)).Nodup) :
   VX Tryz.prog 22 (idsL (cCnt a)) [.agg ((cCnt a).map V.d), .d (.int .i64 k)] none (fun _ r _ ws => r = .d (.int .i64 (k + wtTCnt a)) ∧ ws = cCnt (mkTCnt a k)) := by
  refine VX.of E s22 (by kernel_rfl) Tryz.func22 (by rfl) (by kernel_rfl) (by simp [Tryz.f22]) (by simp [Tryz.f22]) s22_ok ?_ ?_ fun B hB => ?_
  · exact fun g hg => .inl (by simpa [idsVL, V.ids, idsVL_map_d] using hg)
  · exact fun cs h => nomatch h
  have hwt : wtTCnt a = wtS (wtS wtI) a.rows + wtS wtI a.cs := rfl
  have hnd0 := hnd
  simp only [cCnt, idsL_app] at hnd0
  have nd0 : (idsL (cI a.ar)).Nodup := nd_left (nd_left (hnd0))
  have nd1 : (idsL (cS (cS cI) a.rows)).Nodup := nd_right (nd_left (hnd0))
  have nd2 : (idsL (cS cI a.cs)).Nodup := nd_right (hnd0)
  have dj0_1 : ∀ g ∈ idsL (cI a.ar), g ∉ idsL (cS (cS cI) a.rows) := fun g hg => nd_disj (nd_left (hnd0)) g (hg)
  have dj0_2 : ∀ g ∈ idsL (cI a.ar), g ∉ idsL (cS cI a.cs) := fun g hg => nd_disj (hnd0) g (List.mem_append_left _ (hg))
  have dj1_2 : ∀ g ∈ idsL (cS (cS cI) a.rows), g ∉ idsL (cS cI a.cs) := fun g hg => nd_disj (hnd0) g (List.mem_append_right _ hg)
  simp [Tryz.f22, cCnt, cI, cS]
  refine call_x (E85) (by simp) (by simp) (by simp) (fun q hq => .inr ?_) (w_laws_markIntSS a.rows (k) (by omega) (by omega) (hw.2.1) (hl.2.1) (by rw [← idsL_cS]; exact nd1)) fun n0 hs0 r cs' ws hn0 hm0 hp hr hws => ?_
  · simp only [idsL_app, idsL, List.append_nil, List.nil_append, List.append_assoc, List.mem_append, cCnt, cI, cS] at hq ⊢
    first | (simp [hq]; done) | (simp [D.ids] at hq ⊢; grind)
  obtain ⟨rfl, rfl⟩ := hp
  simp at hn0
  have hre0 : reL (phi ((dSl (cS cI) a.rows).ids) [dSl (cS cI) (mkS (mkS (mkI) (wtI)) (wtS wtI) a.rows (k))]) (cS (cS cI) a.rows) = some (cS (cS cI) (mkS (mkS (mkI) (wtI)) (wtS wtI) a.rows (k))) := by
    have := re_sim (sim_mk (marksS marksI) hw.2.1 (k)) ((marksS (marksS marksI)).ids _ _) nd1
    rw [idsL_cS] at this
    exact this
  have ho0_2 : reL (phi ((dSl (cS cI) a.rows).ids) [dSl (cS cI) (mkS (mkS (mkI) (wtI)) (wtS wtI) a.rows (k))]) (cS cI a.cs) = some (cS cI a.cs) := re_same fun g hg => by
    rw [← idsL_cS] at hg
    skip
    exact dj1_2 g hg
  replace hre0 := reVL_map hre0
  replace ho0_2 := reVL_map ho0_2
  simp only [cCnt, cI, cS, List.cons_append, List.nil_append, List.map_cons, List.map_nil, reVL_cons, reVL_nil, List.cons.injEq, and_true, reV_int, reV_str, true_and] at hre0 ho0_2
  simp [hre0, ho0_2, cCnt, cI, cS]
  refine call_x (E83) (by simp) (by simp) (by simp) (fun q hq => .inr ?_) (w_laws_markIntS a.cs (k + wtS (wtS wtI) a.rows) (by omega) (by omega) (hw.2.2) (hl.2.2) (by rw [← idsL_cS]; exact nd2)) fun n1 hs1 r cs' ws hn1 hm1 hp hr hws => ?_
  · simp only [idsL_app, idsL, List.append_nil, List.nil_append, List.append_assoc, List.mem_append, cCnt, cI, cS] at hq ⊢
    first | (simp [hq]; done) | (simp [D.ids] at hq ⊢; grind)
  obtain ⟨rfl, rfl⟩ := hp
  simp at hn1
  have hre1 : reL (phi ((dSl cI a.cs).ids) [dSl cI (mkS (mkI) (wtI) a.cs (k + wtS (wtS wtI) a.rows))]) (cS cI a.cs) = some (cS cI (mkS (mkI) (wtI) a.cs (k + wtS (wtS wtI) a.rows))) := by
    have := re_sim (sim_mk marksI hw.2.2 (k + wtS (wtS wtI) a.rows)) ((marksS marksI).ids _ _) nd2
    rw [idsL_cS] at this
    exact this
  have ho1_1 : reL (phi ((dSl cI a.cs).ids) [dSl cI (mkS (mkI) (wtI) a.cs (k + wtS (wtS wtI) a.rows))]) (cS (cS cI) (mkS (mkS (mkI) (wtI)) (wtS wtI) a.rows (k))) = some (cS (cS cI) (mkS (mkS (mkI) (wtI)) (wtS wtI) a.rows (k))) := re_same fun g hg => by
    rw [← idsL_cS] at hg
    rw [(marksS (marksS marksI)).ids]
    exact (fun h => dj1_2 g h hg)
  replace hre1 := reVL_map hre1
  replace ho1_1 := reVL_map ho1_1
  simp only [cCnt, cI, cS, List.cons_append, List.nil_append, List.map_cons, List.map_nil, reVL_cons, reVL_nil, List.cons.injEq, and_true, reV_int, reV_str, true_and] at hre1 ho1_1
  simp [hre1, ho1_1, cCnt, cI, cS]
  simp [vendX]
  refine ⟨[0], fun γ hs' h1 h2 => ?_⟩
  simp [isD, dD, hwt, mkTCnt, cCnt, cI, cS, reD]
  try omega
theorem w_laws_markAtomS (a : Sl (Atom)) (k : Int) (h0 : 1 ≤ k) (h1 : k + wtS wtAtom a ≤ 4611686018427387904) (hw : whS whAtom a) (hl : okS okAtom a) (hnd : (dSl cAtom a).ids.Nodup) :
   VX Tryz.prog 82 (dSl cAtom a).ids [.d (dSl cAtom a), .d (.int .i64 k)] none (fun _ r _ ws => r = .d (.int .i64 (k + wtS wtAtom a)) ∧ ws = [dSl cAtom (mkS (mkAtom) (wtAtom) a k)]) := by
  refine VX.of E s82 (by kernel_rfl) Tryz.func82 (by rfl) (by kernel_rfl) (by simp [Tryz.f82]) (by simp [Tryz.f82]) s82_ok ?_ ?_ fun B hB => ?_
  · exact fun g hg => .inl (by simpa using hg)
  · exact fun cs h => nomatch h
  obtain ⟨id, T, xs⟩ := a
  have hl1 := hl.1
  simp only [maxLen] at hl1
  have hwt : wtS wtAtom (⟨id, T, xs⟩ : Sl (Atom)) = sumW wtAtom xs := rfl
  rw [hwt] at h1 ⊢
  simp [Tryz.f82]
  refine loop_rule (X := Nat) (fun i => i ≤ xs.length) (fun i => [(0, .d (dSl cAtom ⟨id, T, mkAt mkAtom wtAtom xs k i⟩)), (1, .d (.int .i64 (k + sumW wtAtom (xs.take i)))), (5, .d (.int .i64 i))]) (fun _ => []) (fun i => xs.length - i) 0 (by simp) (by simp) (by simp) ?_
  intro i hs t m hi hh
  by_cases hlt : i < xs.length
  · have hwi := wr1 (i := i) (by omega)
    have e1 := sumW_succ wtAtom hlt
    have e2 := sumW_le wtAtom xs (i + 1)
    have hmem : xs[i] ∈ xs := List.getElem_mem _
    have hwx : wtAtom xs[i] = 1 + wtS wtI xs[i].vars := by simp only [wtAtom, wtStr] <;> omega
    obtain ⟨g, hg, T', hT⟩ := hw.1.id hlt
    simp only at hg hT
    subst hg hT
    have hnd2 := sl_nd hnd
    have hnn : g ∉ idsLL ((mkAt mkAtom wtAtom xs k i).map cAtom) := by rw [ids_mkAt marksAtom.ids]; exact hnd2.2 g rfl
    have hni : g ∉ idsL (cAtom xs[i]) := fun hin => hnd2.2 g rfl (idsLL_map_mem.2 ⟨_, hmem, hin⟩)
    have hne := elem_nd hnd2.1 hlt
    have hni0 := hni
    have hne0 := hne
    have hap : ∀ W : List Nat, (∀ q ∈ W, q ∈ idsL (cAtom xs[i])) → ∀ ws (j : Nat) (e : List D), j ≠ i → ((mkAt mkAtom wtAtom xs k i).map cAtom)[j]? = some e → ∀ q ∈ idsL e, phi W ws q = none := by
      intro W hW ws
      exact nd_mapD (by rw [ids_mkAt marksAtom.ids]; exact hnd2.1) (i := i) (by simpa using hlt) (by simpa using hW) ws
    simp only [cAtom, cS, cStr, idsL_app, idsL, D.ids, dSl, List.append_nil, List.nil_append, List.cons_append, List.mem_append, not_or, List.append_assoc] at hni hne
    simp [dSl, hlt]
    have hk0 : IntKind.i64.wrap (k + sumW wtAtom (xs.take i) + 1) = k + sumW wtAtom (xs.take i) + 1 := wrap64_of (by omega) (by omega)
    refine call_pure (w_laws_markText _ (by omega) (by omega)) rfl (by simp) rfl fun hs0 hh0 => ?_
    simp at hh0
    simp [dSl, hlt, cAtom, cS, cStr, hnn, nin_set hnn, idsL, D.ids, hni, hk0, hwi, ids_mk (wt := wtI) marksI.ids]
    have hx1 : dSl cI xs[i].vars ∈ cAtom xs[i] := by simp [cAtom, cS, cStr]
    refine call_x (E83) (by simp [dSl]) (by simp) (by simp) (fun q hq => .inr ?_) (w_laws_markIntS xs[i].vars (k + sumW wtAtom (xs.take i) + 1) (by omega) (by omega) ((hw.2 _ hmem).2) ((hl.2 _ hmem).2) (nd_mem hne0 hx1)) fun n1 hs1 r cs' ws hn1 hm1 hp hr hws => ?_
    · exact elem_ids (s := ⟨some g, some T', xs⟩) (c := cAtom) (i := i) hlt (mem_idsL hx1 hq)
    obtain ⟨rfl, rfl⟩ := hp
    simp at hn1
    have hre1 : reL (phi (dSl cI xs[i].vars).ids [dSl cI (mkS (mkI) (wtI) xs[i].vars (k + sumW wtAtom (xs.take i) + 1))]) [D.str (mtext (k + sumW wtAtom (xs.take i))), dSl cI xs[i].vars] = some [D.str (mtext (k + sumW wtAtom (xs.take i))), dSl cI (mkS (mkI) (wtI) xs[i].vars (k + sumW wtAtom (xs.take i) + 1))] := reL_cons_iff.2 ⟨rfl, reL_cons_iff.2 ⟨re_root marksI.len ((hw.2 _ hmem).2).1 (by simp) (fun g hg => mem_slids hg) [], rfl⟩⟩
    have hse1 := re_elemD (g := g) (T := some T') (es := (mkAt mkAtom wtAtom xs k i).map cAtom) (phi_out (W := (dSl cI xs[i].vars).ids) (ws := [dSl cI (mkS (mkI) (wtI) xs[i].vars (k + sumW wtAtom (xs.take i) + 1))]) (g := g) (fun h => hni0 (mem_idsL hx1 h))) hre1 (hap _ (fun q hq => mem_idsL hx1 hq) _)
    simp [dSl, cAtom, cS, cStr, mkS] at hse1 ⊢
    simp [hse1, hlt, hnn, nin_set hnn, idsL, D.ids, hni, hwi, mkS, ids_mk (wt := wtI) marksI.ids]
    refine back (i + 1) (by omega) (by omega) rfl (by simp <;> omega) ?_ (by simp)
    simp [mkAt_succ hlt, e1, cAtom, cS, cStr, dSl]
    first
    | exact ⟨rfl, by omega⟩
    | (refine ⟨?_, by omega⟩; simp [mkAtom, mkStr, wtAtom, wtStr, mkS, Int.add_assoc, show ∀ x : Int, 1 + (1 + x) = 2 + x from fun x => by omega])
  · have hn : i = xs.length := by omega
    subst hn
    simp [dSl, vendX]
    refine ⟨[0], fun γ hs' h1 h2 => ?_⟩
    simp [mkS, mkAt_all]
theorem simT_Query {a : Query} (hw : whQuery a) (k : Int) : Sim (cQuery a) (cQuery (mkTQuery a k)) := ((Sim.leaf (by simp [D.ids]) Sim.nil).app (sim_mk marksAtom hw.2.1 (k))).app (sim_mk marksI hw.2.2 (k + wtS wtAtom a.atoms))
theorem w_laws_markQuery (a : Query) (k : Int) (h0 : 1 ≤ k) (h1 : k + wtTQuery a ≤ 4611686018427387904) (hw : whQuery a) (hl : okQuery a) (hnd : (idsL (cQuery a)).Nodup) :
   VX Tryz.prog 20 (idsL (cQuery a)) [.agg ((cQuery a).map V.d), .d (.int .i64 k)] none (fun _ r _ ws => r = .d (.int .i64 (k + wtTQuery a)) ∧ ws = cQuery (mkTQuery a k)) := by
  refine VX.of E s20 (by kernel_rfl) Tryz.func20 (by rfl) (by kernel_rfl) (by simp [Tryz.f20]) (by simp [Tryz.f20]) s20_ok ?_ ?_ fun B hB => ?_
  · exact fun g hg => .inl (by simpa [idsVL, V.ids, idsVL_map_d] using hg)
  · exact fun cs h => nomatch h
  have hwt : wtTQuery a = wtS wtAtom a.atoms + wtS wtI a.out := rfl
  have hnd0 := hnd
  simp only [cQuery, idsL_app] at hnd0
  have nd0 : (idsL (cI a.n)).Nodup := nd_left (nd_left (hnd0))
  have nd1 : (idsL (cS cAtom a.atoms)).Nodup := nd_right (nd_left (hnd0))
  have nd2 : (idsL (cS cI a.out)).Nodup := nd_right (hnd0)
  have dj0_1 : ∀ g ∈ idsL (cI a.n), g ∉ idsL (cS cAtom a.atoms) := fun g hg => nd_disj (nd_left (hnd0)) g (hg)
  have dj0_2 : ∀ g ∈ idsL (cI a.n), g ∉ idsL (cS cI a.out) := fun g hg => nd_disj (hnd0) g (List.mem_append_left _ (hg))
  have dj1_2 : ∀ g ∈ idsL (cS cAtom a.atoms), g ∉ idsL (cS cI a.out) := fun g hg => nd_disj (hnd0) g (List.mem_append_right _ hg)
  simp [Tryz.f20, cI, cQuery, cS]
  refine call_x (E82) (by simp) (by simp) (by simp) (fun q hq => .inr ?_) (w_laws_markAtomS a.atoms (k) (by omega) (by omega) (hw.2.1) (hl.2.1) (by rw [← idsL_cS]; exact nd1)) fun n0 hs0 r cs' ws hn0 hm0 hp hr hws => ?_
  · simp only [idsL_app, idsL, List.append_nil, List.nil_append, List.append_assoc, List.mem_append, cI, cQuery, cS] at hq ⊢
    first | (simp [hq]; done) | (simp [D.ids] at hq ⊢; grind)
  obtain ⟨rfl, rfl⟩ := hp
  simp at hn0
  have hre0 : reL (phi ((dSl cAtom a.atoms).ids) [dSl cAtom (mkS (mkAtom) (wtAtom) a.atoms (k))]) (cS cAtom a.atoms) = some (cS cAtom (mkS (mkAtom) (wtAtom) a.atoms (k))) := by
    have := re_sim (sim_mk marksAtom hw.2.1 (k)) ((marksS marksAtom).ids _ _) nd1
    rw [idsL_cS] at this
    exact this
  have ho0_2 : reL (phi ((dSl cAtom a.atoms).ids) [dSl cAtom (mkS (mkAtom) (wtAtom) a.atoms (k))]) (cS cI a.out) = some (cS cI a.out) := re_same fun g hg => by
    rw [← idsL_cS] at hg
    skip
    exact dj1_2 g hg
  replace hre0 := reVL_map hre0
  replace ho0_2 := reVL_map ho0_2
  simp only [cI, cQuery, cS, List.cons_append, List.nil_append, List.map_cons, List.map_nil, reVL_cons, reVL_nil, List.cons.injEq, and_true, reV_int, reV_str, true_and] at hre0 ho0_2
  simp [hre0, ho0_2, cI, cQuery, cS]
  refine call_x (E83) (by simp) (by simp) (by simp) (fun q hq => .inr ?_) (w_laws_markIntS a.out (k + wtS wtAtom a.atoms) (by omega) (by omega) (hw.2.2) (hl.2.2) (by rw [← idsL_cS]; exact nd2)) fun n1 hs1 r cs' ws hn1 hm1 hp hr hws => ?_
  · simp only [idsL_app, idsL, List.append_nil, List.nil_append, List.append_assoc, List.mem_append, cI, cQuery, cS] at hq ⊢
    first | (simp [hq]; done) | (simp [D.ids] at hq ⊢; grind)
  obtain ⟨rfl, rfl⟩ := hp
  simp at hn1
  have hre1 : reL (phi ((dSl cI a.out).ids) [dSl cI (mkS (mkI) (wtI) a.out (k + wtS wtAtom a.atoms))]) (cS cI a.out) = some (cS cI (mkS (mkI) (wtI) a.out (k + wtS wtAtom a.atoms))) := by
    have := re_sim (sim_mk marksI hw.2.2 (k + wtS wtAtom a.atoms)) ((marksS marksI).ids _ _) nd2
    rw [idsL_cS] at this
    exact this
  have ho1_1 : reL (phi ((dSl cI a.out).ids) [dSl cI (mkS (mkI) (wtI) a.out (k + wtS wtAtom a.atoms))]) (cS cAtom (mkS (mkAtom) (wtAtom) a.atoms (k))) = some (cS cAtom (mkS (mkAtom) (wtAtom) a.atoms (k))) := re_same fun g hg => by
    rw [← idsL_cS] at hg
    rw [(marksS marksAtom).ids]
    exact (fun h => dj1_2 g h hg)
  replace hre1 := reVL_map hre1
  replace ho1_1 := reVL_map ho1_1
  simp only [cI, cQuery, cS, List.cons_append, List.nil_append, List.map_cons, List.map_nil, reVL_cons, reVL_nil, List.cons.injEq, and_true, reV_int, reV_str, true_and] at hre1 ho1_1
  simp [hre1, ho1_1, cI, cQuery, cS]
  simp [vendX]
  refine ⟨[0], fun γ hs' h1 h2 => ?_⟩
  simp [isD, dD, hwt, mkTQuery, cI, cQuery, cS, reD]
  try omega

end Go.Proofs.YtdnbigokdclclaaGreat


namespace Go.Proofs.YtdnbigokdclclaaGreat
open Go.Vs Go.Proofs Go
set_option maxRecDepth 100000
set_option maxHeartbeats 1000000

attribute [simp] plI_id plStr_id map_plI map_plStr pS cP cI cStr cU8 cB
theorem w_impl_within (n lo hi : Int) : VC Tryz.prog 65 [.d (.int .i64 n), .d (.int .i64 lo), .d (.int .i64 hi)] (fun _ r => r = .d (.bool (inR n lo hi))) := by
  refine VC.ofL EP s65 (by kernel_rfl) Tryz.func65 (by rfl) (by kernel_rfl) (by simp [Tryz.f65]) (by simp [Tryz.f65]) s65_ok fun B hl => ?_
  by_cases h : lo ≤ n
  · simp [Tryz.f65, inR, h]
  · simp [Tryz.f65, inR, h]
theorem w_spec_l1In (n lo hi : Int) : VC Tryz.prog 52 [.d (.int .i64 n), .d (.int .i64 lo), .d (.int .i64 hi)] (fun _ r => r = .d (.bool (inR n lo hi))) := by
  refine VC.ofL EP s52 (by kernel_rfl) Tryz.func52 (by rfl) (by kernel_rfl) (by simp [Tryz.f52]) (by simp [Tryz.f52]) s52_ok fun B hl => ?_
  by_cases h : lo ≤ n
  · simp [Tryz.f52, inR, h]
  · simp [Tryz.f52, inR, h]
theorem w_impl_AreValidValues (xs : List Int) : VC Tryz.prog 182 [.d (pS cI xs)] (fun _ r => r = .d (.bool (valsOk xs))) := by
  refine VC.ofL EP s182 (by kernel_rfl) Tryz.func182 (by rfl) (by kernel_rfl) (by simp [Tryz.f182]) (by simp [Tryz.f182]) s182_ok fun B hl => ?_
  simp [pS, maxLen] at hl
  simp [Tryz.f182, pS]
  refine loop_rule (X := Nat) (fun i => i ≤ xs.length ∧ (xs.take i).all (fun v => inR v 0 99) = true) (fun i => [(5, .d (.pl (xs.map cI))), (6, .d (.int .i64 xs.length)), (7, .d (.int .i64 i))]) (fun _ => []) (fun i => xs.length - i) 0 (by simp) (by simp) (by simp) ?_
  intro i hs t m hi hh
  by_cases hlt : i < xs.length
  · have hwi := wr1 (i := i) (by omega)
    have hst := all_step (p := fun v => inR v 0 99) hlt
    rw [hi.2, Bool.true_and] at hst
    have hbad : inR xs[i] 0 99 = false → valsOk xs = false := all_bad (p := fun v => inR v 0 99) hlt
    simp [hlt, cI]
    refine call_f (w_impl_within xs[i] 0 99) (by simp) rfl fun hs1 hh1 => ?_
    cases hc : inR xs[i] 0 99
    · simp [hbad hc]
    · simp [hwi]
      simp at hh1
      exact back (i + 1) ⟨by omega, List.all_eq_true.1 (hst.trans hc)⟩ (by omega) rfl (by simp <;> omega) (by simp) (by simp)
  · have hd : valsOk xs = true := all_done (by omega) hi.2
    simp [hlt, hd]

end Go.Proofs.YtdnbigokdclclaaGreat


namespace Go.Proofs.YtdnbigokdclclaaGreat
open Go.Vs Go.Proofs Go
set_option maxRecDepth 100000
set_option maxHeartbeats 1000000

theorem w_spec_AreValidValues (xs : List Int) : VC Tryz.prog 167 [.d (pS cI xs)] (fun _ r => r = .d (.bool (valsOk xs))) := by
  refine VC.ofL EP s167 (by kernel_rfl) Tryz.func167 (by rfl) (by kernel_rfl) (by simp [Tryz.f167]) (by simp [Tryz.f167]) s167_ok fun B hl => ?_
  simp [pS, maxLen] at hl
  simp [Tryz.f167, pS]
  refine loop_rule (X := Nat) (fun i => i ≤ xs.length ∧ (xs.take i).all (fun v => inR v 0 99) = true) (fun i => [(0, .d (.pl (xs.map cI))), (3, .d (.int .i64 i))]) (fun _ => []) (fun i => xs.length - i) 0 (by simp) (by simp) (by simp) ?_
  intro i hs t m hi hh
  by_cases hlt : i < xs.length
  · have hwi := wr1 (i := i) (by omega)
    have hst := all_step (p := fun v => inR v 0 99) hlt
    rw [hi.2, Bool.true_and] at hst
    have hbad : inR xs[i] 0 99 = false → valsOk xs = false := all_bad (p := fun v => inR v 0 99) hlt
    simp [hlt, cI]
    refine call_f (w_spec_l1In xs[i] 0 99) (by simp) rfl fun hs1 hh1 => ?_
    simp at hh1
    cases hc : inR xs[i] 0 99
    · simp [hbad hc]
    · simp [hwi]
      exact back (i + 1) ⟨by omega, List.all_eq_true.1 (hst.trans hc)⟩ (by omega) rfl (by simp <;> omega) (by simp) (by simp)
  · have hd : valsOk xs = true := all_done (by omega) hi.2
    simp [hlt, hd]
theorem w_spec_CompareRows (a b : List Int) : VC Tryz.prog 91 [.d (pS cI a), .d (pS cI b)] (fun _ r => r = .d (.int .i64 (cmpL a b))) := by
  refine VC.ofL EP s91 (by kernel_rfl) Tryz.func91 (by rfl) (by kernel_rfl) (by simp [Tryz.f91]) (by simp [Tryz.f91]) s91_ok fun B hl => ?_
  simp [pS, maxLen, cI] at hl
  simp [Tryz.f91, s91_4, s91_6, pS]
  refine loop_rule (X := Nat) (fun i => i ≤ a.length ∧ i ≤ b.length ∧ cmpL a b = cmpL (a.drop i) (b.drop i)) (fun i => [(0, .d (.pl (a.map cI))), (1, .d (.pl (b.map cI))), (5, .d (.int .i64 i))]) (fun _ => []) (fun i => a.length - i) 0 (by simp) (by simp) (by simp) ?_
  intro i hs t m hi hh
  by_cases hlt : i < a.length
  · by_cases hlb : i < b.length
    · have hwi := wr1 (i := i) (by omega)
      have hc := cmpL_drop hlt hlb
      rw [← hi.2.2] at hc
      by_cases h1 : a[i] < b[i]
      · simp [cI, s91_4, s91_6, hlt, hlb, h1, hc]
      · by_cases h2 : b[i] < a[i]
        · simp [cI, s91_4, s91_6, hlt, hlb, h1, h2, hc]
        · simp only [h1, h2, if_false] at hc
          simp [cI, s91_4, s91_6, hlt, hlb, h1, h2, hwi]
          exact back (i + 1) ⟨by omega, by omega, hc⟩ (by omega) rfl (by simp) (by simp) (by simp)
    · have he := cmpL_end hi.1 hi.2.1 (by omega)
      rw [← hi.2.2] at he
      by_cases h1 : a.length < b.length
      · simp [hlt, hlb, h1, he]
      · by_cases h2 : b.length < a.length <;> simp [hlt, hlb, h1, h2, he]
  · have he := cmpL_end hi.1 hi.2.1 (by omega)
    rw [← hi.2.2] at he
    by_cases h1 : a.length < b.length
    · simp [hlt, h1, he]
    · by_cases h2 : b.length < a.length <;> simp [hlt, h1, h2, he]
theorem w_impl_compareInts (x y : Int) : VC Tryz.prog 184 [.d (.int .i64 x), .d (.int .i64 y)] (fun _ r => r = .d (.int .i64 (if x < y then -1 else if y < x then 1 else 0))) := by
  refine VC.ofL EP s184 (by kernel_rfl) Tryz.func184 (by rfl) (by kernel_rfl) (by simp [Tryz.f184]) (by simp [Tryz.f184]) s184_ok fun B hl => ?_
  by_cases h1 : x < y
  · simp [Tryz.f184, h1]
  · by_cases h2 : y < x <;> simp [Tryz.f184, h1, h2]
theorem w_impl_CompareRows (a b : List Int) : VC Tryz.prog 173 [.d (pS cI a), .d (pS cI b)] (fun _ r => r = .d (.int .i64 (cmpL a b))) := by
  refine VC.ofL EP s173 (by kernel_rfl) Tryz.func173 (by rfl) (by kernel_rfl) (by simp [Tryz.f173]) (by simp [Tryz.f173]) s173_ok fun B hl => ?_
  simp [pS, maxLen, cI] at hl
  simp [Tryz.f173, s173_4, s173_5, pS]
  refine loop_rule (X := Nat) (fun i => i ≤ a.length ∧ i ≤ b.length ∧ cmpL a b = cmpL (a.drop i) (b.drop i)) (fun i => [(0, .d (.pl (a.map cI))), (1, .d (.pl (b.map cI))), (5, .d (.int .i64 i))]) (fun _ => []) (fun i => a.length - i) 0 (by simp) (by simp) (by simp) ?_
  intro i hs t m hi hh
  by_cases hlt : i < a.length ∧ i < b.length
  · obtain ⟨hlt, hlb⟩ := hlt
    have hwi := wr1 (i := i) (by omega)
    have hc := cmpL_drop hlt hlb
    rw [← hi.2.2] at hc
    by_cases he : a[i] = b[i]
    · rw [if_neg (by omega), if_neg (by omega)] at hc
      simp [cI, s173_4, s173_5, hlt, hlb, hwi, he]
      exact back (i + 1) ⟨by omega, by omega, hc⟩ (by omega) rfl (by simp) (by simp) (by simp)
    · simp [cI, s173_4, s173_5, hlt, hlb, hwi, he]
      refine call_f (w_impl_compareInts a[i] b[i]) (by simp) rfl fun hs1 hh1 => ?_
      have : (if a[i] < b[i] then (-1 : Int) else if b[i] < a[i] then 1 else 0) = cmpL a b := by rw [hc]; by_cases h1 : a[i] < b[i] <;> simp [h1]; omega
      simp [this]
  · have he := cmpL_end hi.1 hi.2.1 hlt
    rw [← hi.2.2] at he
    have hcm : (if (a.length : Int) < b.length then (-1 : Int) else if (b.length : Int) < a.length then 1 else 0) = cmpL a b := by rw [he]; simp
    by_cases hl1 : i < a.length
    · have hl2 : ¬ i < b.length := fun h => hlt ⟨hl1, h⟩
      simp [hl1, hl2]
      refine call_f (w_impl_compareInts a.length b.length) (by simp) rfl fun hs1 hh1 => ?_
      simp only [hcm]
      simp
    · simp [hl1]
      refine call_f (w_impl_compareInts a.length b.length) (by simp) rfl fun hs1 hh1 => ?_
      simp only [hcm]
      simp

end Go.Proofs.YtdnbigokdclclaaGreat


namespace Go.Proofs.YtdnbigokdclclaaGreat
open Go.Vs Go.Proofs Go
set_option maxRecDepth 100000
set_option maxHeartbeats 1000000

theorem w_impl_rowsValid (ar : Int) (l : List (List Int)) : VC Tryz.prog 179 [.d (.int .i64 ar), .d (pS (cP cI) l)] (fun _ r => r = .d (.bool (rowsOk ar l))) := by
  refine VC.ofL EP s179 (by kernel_rfl) Tryz.func179 (by rfl) (by kernel_rfl) (by simp [Tryz.f179]) (by simp [Tryz.f179]) s179_ok fun B hl => ?_
  simp [pS, cP, cI, maxLen] at hl
  simp [Tryz.f179, pS]
  refine call_f (w_impl_within ar 0 5) (by simp) rfl fun hs0 hh0 => ?_
  simp at hh0
  cases h1 : inR ar 0 5
  · simp [rowsOk, h1]
  by_cases h2 : (4000 : Int) < l.length
  · simp [rowsOk, h2, show ¬ l.length ≤ 4000 by omega]
  have h2' : l.length ≤ 4000 := by omega
  simp [h2]
  refine loop_rule (X := Nat) (fun i => i ≤ l.length ∧ ∀ j, j < i → rowOk ar l j = true) (fun i => [(0, .d (.int .i64 ar)), (1, .d (.pl (l.map (cP cI)))), (15, .d (.pl (l.map (cP cI)))), (16, .d (.int .i64 l.length)), (17, .d (.int .i64 i))]) (fun _ => []) (fun i => l.length - i) 0 (by simp) (by simp) (by simp) ?_
  intro i hs t m hi hh
  by_cases hlt : i < l.length
  · have hwi := wr1 (i := i) (by omega)
    have hr : rowOk ar l i = (decide ((l[i].length : Int) = ar) && valsOk l[i] && (i == 0 || decide (cmpL (l.getD (i - 1) []) l[i] < 0))) := by simp [rowOk, hlt]
    have hbad := fun h => rows_bad (ar := ar) hlt h
    have step : rowOk ar l i = true → ∀ j, j < i + 1 → rowOk ar l j = true := fun h j hj => by
      rcases Nat.lt_succ_iff_lt_or_eq.1 hj with h' | h'
      · exact hi.2 j h'
      · rw [h']; exact h
    by_cases c1 : (l[i].length : Int) = ar
    case neg => simp [hlt, cP, pS, c1, hbad (by rw [hr]; simp [c1])]
    simp [hlt, cP, pS, c1]
    refine call_f (w_impl_AreValidValues l[i]) (by simp [pS]) rfl fun hs1 hh1 => ?_
    simp at hh1
    cases c2 : valsOk l[i]
    · simp [hbad (by rw [hr]; simp [c2])]
    by_cases c3 : i = 0
    · subst c3
      simp [hwi, show IntKind.i64.wrap 1 = 1 by decide]
      exact back 1 ⟨by omega, step (by rw [hr]; simp [c1, c2])⟩ (by omega) rfl (by simp <;> omega) (by simp [cP, pS, show IntKind.i64.wrap 1 = 1 by decide]) (by simp)
    · have hw1 : IntKind.i64.wrap ((i : Int) - 1) = ((i - 1 : Nat) : Int) := by rw [wrap64_of (by omega) (by omega)]; omega
      have hip : (0 : Int) < i := by omega
      have hlt1 : i - 1 < l.length := by omega
      have hg1 : l.getD (i - 1) [] = l[i - 1] := by simp [hlt1]
      rw [hg1] at hr
      simp [hip, hw1, hlt1, cP, pS, c3, show 0 < i by omega]
      refine call_f (w_impl_CompareRows l[i - 1] l[i]) (by simp [pS]) rfl fun hs2 hh2 => ?_
      simp at hh2
      by_cases c4 : cmpL l[i - 1] l[i] < 0
      · simp [hwi, show ¬ 0 ≤ cmpL l[i - 1] l[i] by omega]
        exact back (i + 1) ⟨by omega, step (by rw [hr]; simp [c1, c2, c4])⟩ (by omega) rfl (by simp <;> omega) (by simp [cP, pS]) (by simp)
      · simp [show 0 ≤ cmpL l[i - 1] l[i] by omega, hbad (by rw [hr]; simp [c3, c4])]
  · have hn : i = l.length := by omega
    have hd := rows_done h1 h2' (hn ▸ hi.2)
    simp [hlt, hd]
theorem w_impl_IsValidRelation (r : PReln) : VC Tryz.prog 156 [.agg ((eReln r).map .d)] (fun _ v => v = .d (.bool (rowsOk r.ar r.rows))) := by
  refine VC.ofL EP s156 (by kernel_rfl) Tryz.func156 (by rfl) (by kernel_rfl) (by simp [Tryz.f156]) (by simp [Tryz.f156]) s156_ok fun B hl => ?_
  simp [Tryz.f156, eReln, cI, cP]
  refine call_f (w_impl_rowsValid r.ar r.rows) (by simp [pS, cP]) rfl fun hs0 hh0 => ?_
  simp
theorem w_spec_IsValidRelation (r : PReln) : VC Tryz.prog 123 [.agg ((eReln r).map .d)] (fun _ v => v = .d (.bool (rowsOk r.ar r.rows))) := by
  obtain ⟨ar, l⟩ := r
  refine VC.ofL EP s123 (by kernel_rfl) Tryz.func123 (by rfl) (by kernel_rfl) (by simp [Tryz.f123]) (by simp [Tryz.f123]) s123_ok fun B hl => ?_
  simp [eReln, pS, cP, cI, maxLen] at hl
  simp [Tryz.f123, s123_6, eReln, cI, cP, pS]
  refine call_f (w_spec_l1In ar 0 5) (by simp) rfl fun hs0 hh0 => ?_
  simp at hh0
  cases h1 : inR ar 0 5
  · simp [rowsOk, h1]
  by_cases h2 : (4000 : Int) < l.length
  · simp [rowsOk, h2, show ¬ l.length ≤ 4000 by omega]
  have h2' : l.length ≤ 4000 := by omega
  simp [h2]
  refine loop_rule (X := Nat) (fun i => i ≤ l.length ∧ ∀ j, j < i → rowOk ar l j = true) (fun i => [(1, .ptr 1 0 0), (3, .d (.int .i64 i))]) (fun _ => [(1, some (.box [.d (.int .i64 ar), .d (.pl (l.map fun xs => [.pl (xs.map cI)]))]))]) (fun i => l.length - i) 0 (by simp) (by simp) (by simp [cI, cP, pS]) ?_
  intro i hs t m hi hh
  by_cases hlt : i < l.length
  · have hwi := wr1 (i := i) (by omega)
    have hr : rowOk ar l i = (decide ((l[i].length : Int) = ar) && valsOk l[i] && (i == 0 || decide (cmpL (l.getD (i - 1) []) l[i] < 0))) := by simp [rowOk, hlt]
    have hbad := fun h => rows_bad (ar := ar) hlt h
    have step : rowOk ar l i = true → ∀ j, j < i + 1 → rowOk ar l j = true := fun h j hj => by
      rcases Nat.lt_succ_iff_lt_or_eq.1 hj with h' | h'
      · exact hi.2 j h'
      · rw [h']; exact h
    by_cases c1 : (l[i].length : Int) = ar
    case neg => simp [hlt, s123_6, c1, hbad (by rw [hr]; simp [c1])]
    simp [hlt, s123_6, c1]
    refine call_f (w_spec_AreValidValues l[i]) (by simp [pS]) rfl fun hs1 hh1 => ?_
    simp at hh1
    cases c2 : valsOk l[i]
    · simp [hbad (by rw [hr]; simp [c2])]
    by_cases c3 : i = 0
    · subst c3
      simp [hwi, show IntKind.i64.wrap 1 = 1 by decide]
      exact back 1 ⟨by omega, step (by rw [hr]; simp [c1, c2])⟩ (by omega) rfl (by simp <;> omega) (by simp [show IntKind.i64.wrap 1 = 1 by decide]) (by simp)
    · have hw1 : IntKind.i64.wrap ((i : Int) - 1) = ((i - 1 : Nat) : Int) := by rw [wrap64_of (by omega) (by omega)]; omega
      have hip : (0 : Int) < i := by omega
      have hlt1 : i - 1 < l.length := by omega
      have hg1 : l.getD (i - 1) [] = l[i - 1] := by simp [hlt1]
      rw [hg1] at hr
      simp [hip, hw1, hlt1, hlt, c3, show 0 < i by omega]
      refine call_f (w_spec_CompareRows l[i - 1] l[i]) (by simp [pS]) rfl fun hs2 hh2 => ?_
      simp at hh2
      by_cases c4 : cmpL l[i - 1] l[i] < 0
      · simp [hwi, show ¬ 0 ≤ cmpL l[i - 1] l[i] by omega]
        exact back (i + 1) ⟨by omega, step (by rw [hr]; simp [c1, c2, c4])⟩ (by omega) rfl (by simp <;> omega) (by simp) (by simp)
      · simp [show 0 ≤ cmpL l[i - 1] l[i] by omega, hbad (by rw [hr]; simp [c3, c4])]
  · have hn : i = l.length := by omega
    have hd := rows_done h1 h2' (hn ▸ hi.2)
    simp [hlt, hd]

end Go.Proofs.YtdnbigokdclclaaGreat


namespace Go.Proofs.YtdnbigokdclclaaGreat
open Go.Vs Go.Proofs Go
set_option maxRecDepth 100000
set_option maxHeartbeats 1000000

theorem w_impl_place (l : List (List Int)) (row : List Int) (hb : l.length ≤ 4294967296) : VC Tryz.prog 143 [.d (pS (cP cI) l), .d (pS cI row)] (fun _ v => v = .tup [.d (.int .i64 (placeK l row)), .d (.bool (placeB l row))]) := by
  refine VC.ofL EP s143 (by kernel_rfl) Tryz.func143 (by rfl) (by kernel_rfl) (by simp [Tryz.f143]) (by simp [Tryz.f143]) s143_ok fun B hl => ?_
  simp [pS, cP, cI, maxLen] at hl
  simp [Tryz.f143, pS]
  refine loop_rule (X := Nat × Nat) (fun p => p.1 ≤ p.2 ∧ p.2 ≤ l.length ∧ bs l row p.1 p.2 = placeK l row) (fun p => [(0, .d (.pl (l.map (cP cI)))), (1, .d (.pl (row.map cI))), (6, .d (.int .i64 p.1)), (7, .d (.int .i64 p.2))]) (fun _ => []) (fun p => p.2 - p.1) (0, l.length) (by simp; rfl) (by simp) (by simp) ?_
  rintro ⟨lo, hi⟩ hs t m ⟨h1, h2, h3⟩ hh
  simp only at h1 h2 h3
  by_cases hlt : lo < hi
  · rw [bs_lt hlt] at h3
    have hm := mid64 (a := lo) (b := hi) (by omega) (by omega)
    have hml : (lo + hi) / 2 < l.length := by omega
    have hk1 : lo ≤ (lo + hi) / 2 ∧ (lo + hi) / 2 < hi := by omega
    generalize (lo + hi) / 2 = k at *
    have hg : l.getD k [] = l[k] := by simp [hml]
    simp [hlt, hm, hml, cP, pS]
    refine call_f (w_impl_CompareRows l[k] row) (by simp [pS]) rfl fun hs1 hh1 => ?_
    simp at hh1
    rw [hg] at h3
    by_cases hc : cmpL l[k] row < 0
    · rw [if_pos hc] at h3
      have hw := wr1 (i := k) (by omega)
      simp [hc, hw]
      exact back (k + 1, hi) ⟨by simp; omega, h2, h3⟩ (by simp; omega) rfl (by simp <;> omega) (by simp [cP, pS]) (by simp)
    · rw [if_neg hc] at h3
      simp [hc]
      exact back (lo, k) ⟨by simp; omega, by simp; omega, h3⟩ (by simp; omega) rfl (by simp <;> omega) (by simp [cP, pS]) (by simp)
  · rw [bs_ge hlt] at h3
    subst h3
    by_cases hk : placeK l row < l.length
    · simp [hlt, hk, cP, pS]
      refine call_f (w_impl_CompareRows l[placeK l row] row) (by simp [pS]) rfl fun hs1 hh1 => ?_
      simp [placeB, hk]
    · simp [hlt, hk, placeB]
theorem w_spec_l5Place (r : PReln) (row : List Int) (hb : r.rows.length ≤ 4294967296) : VC Tryz.prog 125 [.agg ((eReln r).map .d), .d (pS cI row)] (fun _ v => v = .tup [.d (.int .i64 (placeK r.rows row)), .d (.bool (placeB r.rows row))]) := by
  obtain ⟨ar, l⟩ := r
  simp only at hb ⊢
  refine VC.ofL EP s125 (by kernel_rfl) Tryz.func125 (by rfl) (by kernel_rfl) (by simp [Tryz.f125]) (by simp [Tryz.f125]) s125_ok fun B hl => ?_
  simp [eReln, pS, cP, cI, maxLen] at hl
  simp [Tryz.f125, eReln, cI, cP, pS]
  refine loop_rule (X := Nat × Nat) (fun p => p.1 ≤ p.2 ∧ p.2 ≤ l.length ∧ bs l row p.1 p.2 = placeK l row) (fun p => [(2, .ptr 2 0 0), (1, .d (.pl (row.map cI))), (6, .d (.int .i64 p.1)), (7, .d (.int .i64 p.2))]) (fun _ => [(2, some (.box [.d (.int .i64 ar), .d (.pl (l.map (cP cI)))]))]) (fun p => p.2 - p.1) (0, l.length) (by simp; rfl) (by simp [cI]) (by simp [cP, pS, cI]) ?_
  rintro ⟨lo, hi⟩ hs t m ⟨h1, h2, h3⟩ hh
  simp only at h1 h2 h3
  by_cases hlt : lo < hi
  · rw [bs_lt hlt] at h3
    have hm := mid64 (a := lo) (b := hi) (by omega) (by omega)
    have hml : (lo + hi) / 2 < l.length := by omega
    have hk1 : lo ≤ (lo + hi) / 2 ∧ (lo + hi) / 2 < hi := by omega
    generalize (lo + hi) / 2 = k at *
    have hg : l.getD k [] = l[k] := by simp [hml]
    simp [hlt, hm, hml, cP, pS]
    refine call_f (w_spec_CompareRows l[k] row) (by simp [pS]) rfl fun hs1 hh1 => ?_
    simp at hh1
    rw [hg] at h3
    by_cases hc : cmpL l[k] row < 0
    · rw [if_pos hc] at h3
      have hw := wr1 (i := k) (by omega)
      simp [hc, hw]
      exact back (k + 1, hi) ⟨by simp; omega, h2, h3⟩ (by simp; omega) rfl (by simp <;> omega) (by simp [cP, pS]) (by simp [cP, pS])
    · rw [if_neg hc] at h3
      simp [hc]
      exact back (lo, k) ⟨by simp; omega, by simp; omega, h3⟩ (by simp; omega) rfl (by simp <;> omega) (by simp [cP, pS]) (by simp [cP, pS])
  · rw [bs_ge hlt] at h3
    subst h3
    by_cases hk : placeK l row < l.length
    · simp [hlt, hk, cP, pS]
      refine call_f (w_spec_CompareRows l[placeK l row] row) (by simp [pS]) rfl fun hs1 hh1 => ?_
      simp [placeB, hk]
    · simp [hlt, hk, placeB]
theorem w_spec_IsValidCounted (c : PCnt) : VC Tryz.prog 94 [.agg ((eCnt c).map .d)] (fun _ v => v = .d (.bool (cntsOk c))) := by
  obtain ⟨ar, l, cs⟩ := c
  refine VC.ofL EP s94 (by kernel_rfl) Tryz.func94 (by rfl) (by kernel_rfl) (by simp [Tryz.f94]) (by simp [Tryz.f94]) s94_ok fun B hl => ?_
  simp [eCnt, pS, cP, cI, maxLen] at hl
  by_cases h2 : l.length = cs.length
  case neg => simp [Tryz.f94, eCnt, cI, cP, pS, h2, cntsOk]
  simp [Tryz.f94, eCnt, cI, cP, pS, h2]
  refine call_f (w_spec_IsValidRelation ⟨ar, l⟩) (by simp [eReln, pS, cP, cI]) rfl fun hs0 hh0 => ?_
  simp at hh0
  cases h1 : rowsOk ar l
  · simp [cntsOk, h1]
  simp
  refine loop_rule (X := Nat) (fun i => i ≤ cs.length ∧ (cs.take i).all cntOk = true) (fun i => [(1, .ptr 1 0 0), (3, .d (.int .i64 i))]) (fun _ => [(1, some (.box [.d (.int .i64 ar), .d (.pl (l.map (cP cI))), .d (.pl (cs.map cI))]))]) (fun i => cs.length - i) 0 (by simp) (by simp) (by simp [cI, cP, pS]) ?_
  intro i hs t m hi hh
  by_cases hlt : i < cs.length
  · have hwi := wr1 (i := i) (by omega)
    have hst := all_step (p := cntOk) hlt
    rw [hi.2, Bool.true_and] at hst
    have hbad : cntOk cs[i] = false → cntsOk ⟨ar, l, cs⟩ = false := fun h => by simp only [cntsOk]; rw [all_bad (p := cntOk) hlt h]; simp
    by_cases h0 : cs[i] = 0
    · simp [hlt, cI, h0, hbad (by simp [cntOk, h0])]
    simp [hlt, cI, h0]
    refine call_f (w_spec_l1In cs[i] (-1000000) 1000000) (by simp) rfl fun hs1 hh1 => ?_
    simp at hh1
    cases hc : inR cs[i] (-1000000) 1000000
    · simp [hbad (by simp [cntOk, hc])]
    · simp [hwi]
      exact back (i + 1) ⟨by omega, List.all_eq_true.1 (hst.trans (by simp [cntOk, hc, h0]))⟩ (by omega) rfl (by simp <;> omega) (by simp [cI]) (by simp [cI])
  · have hd : cs.all cntOk = true := all_done (by omega) hi.2
    have hf : cntsOk ⟨ar, l, cs⟩ = true := by simp only [cntsOk]; rw [hd]; simp [h1, h2]
    simp [hlt, hf]

end Go.Proofs.YtdnbigokdclclaaGreat


namespace Go.Proofs.YtdnbigokdclclaaGreat
open Go.Vs Go.Proofs Go
set_option maxRecDepth 100000
set_option maxHeartbeats 1000000


end Go.Proofs.YtdnbigokdclclaaGreat


namespace Go.Proofs.YtdnbigokdclclaaGreat
open Go.Vs Go.Proofs Go
set_option maxRecDepth 100000
set_option maxHeartbeats 1000000

section
attribute [local simp] plI_id plStr_id map_plI map_plStr pS cP cI cStr cU8 cB
theorem w_spec_l7Find (l : List Int) (v : Int) : VC Tryz.prog 166 [.d (pS cI l), .d (.int .i64 v)] (fun _ r => r = .d (.int .i64 (idxL l v))) := by
  refine VC.ofL EP s166 (by kernel_rfl) Tryz.func166 (by rfl) (by kernel_rfl) (by simp [Tryz.f166]) (by simp [Tryz.f166]) s166_ok fun B hl => ?_
  simp [pS, maxLen] at hl
  simp [Tryz.f166, ]
  refine loop_rule (X := Nat) (fun i => i ≤ l.length ∧ AllTo (fun x => !(x == v)) l i) (fun i => [(0, .d (.pl (l.map cI))), (1, .d (.int .i64 v)), (5, .d (.int .i64 i))]) (fun _ => []) (fun i => l.length - i) 0 ⟨by simp, allTo_zero⟩ (by simp) (by simp) ?_
  intro i hs t m hi hh
  by_cases hlt : i < l.length
  · have hwi := wr1 (i := i) (by omega)
    by_cases he : l[i] = v
    · have hx := idxL_at hi.2 hlt he
      simp [hlt, he, hx, ]
    · simp [hlt, he, hwi, ]
      exact back (i + 1) ⟨by omega, allTo_step hi.2 hlt (by simp [he])⟩ (by omega) rfl (by simp <;> omega) (by simp) (by simp)
  · have hx := (idxL_no (allTo_done hi.2 (by omega))).2
    simp [hlt, hx]
theorem w_impl_indexOf (l : List Int) (v : Int) : VC Tryz.prog 140 [.d (pS cI l), .d (.int .i64 v)] (fun _ r => r = .d (.int .i64 (idxL l v))) := by
  refine VC.ofL EP s140 (by kernel_rfl) Tryz.func140 (by rfl) (by kernel_rfl) (by simp [Tryz.f140]) (by simp [Tryz.f140]) s140_ok fun B hl => ?_
  simp [pS, maxLen] at hl
  simp [Tryz.f140, ]
  refine loop_rule (X := Nat) (fun i => i ≤ l.length ∧ AllTo (fun x => !(x == v)) l i) (fun i => [(1, .d (.int .i64 v)), (7, .d (.pl (l.map cI))), (8, .d (.int .i64 l.length)), (9, .d (.int .i64 i))]) (fun _ => []) (fun i => l.length - i) 0 ⟨by simp, allTo_zero⟩ (by simp) (by simp) ?_
  intro i hs t m hi hh
  by_cases hlt : i < l.length
  · have hwi := wr1 (i := i) (by omega)
    by_cases he : l[i] = v
    · have hx := idxL_at hi.2 hlt he
      simp [hlt, he, hx, ]
    · simp [hlt, he, hwi, ]
      exact back (i + 1) ⟨by omega, allTo_step hi.2 hlt (by simp [he])⟩ (by omega) rfl (by simp <;> omega) (by simp) (by simp)
  · have hx := (idxL_no (allTo_done hi.2 (by omega))).2
    simp [hlt, hx]
theorem w_impl_hasInt (l : List Int) (v : Int) : VC Tryz.prog 174 [.d (pS cI l), .d (.int .i64 v)] (fun _ r => r = .d (.bool (l.contains v))) := by
  refine VC.ofL EP s174 (by kernel_rfl) Tryz.func174 (by rfl) (by kernel_rfl) (by simp [Tryz.f174]) (by simp [Tryz.f174]) s174_ok fun B hl => ?_
  rw [← idxL_ge]
  simp [Tryz.f174, ]
  refine call_f (w_impl_indexOf l v) (by simp) rfl fun hs1 hh1 => ?_
  simp
theorem w_spec_ContainsVariable (a : PAtom) (v : Int) : VC Tryz.prog 165 [.agg ((eAtom a).map V.d), .d (.int .i64 v)] (fun _ r => r = .d (.bool (a.vars.contains v))) := by
  refine VC.ofL EP s165 (by kernel_rfl) Tryz.func165 (by rfl) (by kernel_rfl) (by simp [Tryz.f165]) (by simp [Tryz.f165]) s165_ok fun B hl => ?_
  obtain ⟨nm, l⟩ := a
  simp [pS, maxLen, eAtom] at hl
  simp [Tryz.f165, eAtom]
  refine loop_rule (X := Nat) (fun i => i ≤ l.length ∧ AllTo (fun x => !(x == v)) l i) (fun i => [(1, .d (.int .i64 v)), (2, .ptr 2 0 0), (5, .d (.int .i64 i))]) (fun _ => [(2, some (.box [.d (.str nm), .d (.pl (l.map cI))]))]) (fun i => l.length - i) 0 ⟨by simp, allTo_zero⟩ (by simp) (by simp) ?_
  intro i hs t m hi hh
  by_cases hlt : i < l.length
  · have hwi := wr1 (i := i) (by omega)
    by_cases he : l[i] = v
    · have hx : v ∈ l := he ▸ List.getElem_mem hlt
      simp [hlt, he, hx, ]
    · simp [hlt, he, hwi, ]
      exact back (i + 1) ⟨by omega, allTo_step hi.2 hlt (by simp [he])⟩ (by omega) rfl (by simp <;> omega) (by simp) (by simp)
  · have hx := (idxL_no (allTo_done hi.2 (by omega))).1
    simp [hlt, hx]
theorem w_impl_ContainsVariable (a : PAtom) (v : Int) : VC Tryz.prog 142 [.agg ((eAtom a).map V.d), .d (.int .i64 v)] (fun _ r => r = .d (.bool (a.vars.contains v))) := by
  refine VC.ofL EP s142 (by kernel_rfl) Tryz.func142 (by rfl) (by kernel_rfl) (by simp [Tryz.f142]) (by simp [Tryz.f142]) s142_ok fun B hl => ?_
  simp [Tryz.f142, eAtom]
  refine call_f (w_impl_hasInt a.vars v) (by simp) rfl fun hs1 hh1 => ?_
  simp
theorem w_impl_isLetters (s : List UInt8) : VC Tryz.prog 183 [.d (.str s), .d (.int .i64 4)] (fun _ r => r = .d (.bool (nameOk s))) := by
  refine VC.ofL EP s183 (by kernel_rfl) Tryz.func183 (by rfl) (by kernel_rfl) (by simp [Tryz.f183]) (by simp [Tryz.f183]) s183_ok fun B hl => ?_
  by_cases h1 : (s.length : Int) < 1
  · have : s = [] := List.length_eq_zero_iff.1 (by omega)
    subst this
    simp [Tryz.f183, nameOk_len]
  by_cases h4 : (4 : Int) < s.length
  · have : nameOk s = false := nameOk_len (by omega)
    simp [Tryz.f183, h1, h4, this]
  have hlen : 1 ≤ s.length ∧ s.length ≤ 4 := by omega
  simp [Tryz.f183, h1, h4]
  refine loop_rule (X := Nat) (fun i => i ≤ s.length ∧ AllTo lowB s i) (fun i => [(0, .d (.str s)), (5, .d (.int .i64 i))]) (fun _ => []) (fun i => s.length - i) 0 ⟨by simp, allTo_zero⟩ (by simp) (by simp) ?_
  intro i hs t m hi hh
  by_cases hlt : i < s.length
  · have hwi := wr1 (i := i) (by omega)
    by_cases ha : ((s[i]).toNat : Int) < 97
    · have hbad := nameOk_bad (all_bad (p := lowB) hlt (lowB_lo ha))
      simp [hlt, ha, hbad, ]
    · by_cases hz : (122 : Int) < ((s[i]).toNat : Int)
      · have hbad := nameOk_bad (all_bad (p := lowB) hlt (lowB_hi hz))
        simp [hlt, ha, hz, hbad, ]
      · simp [hlt, ha, hz, hwi, ]
        exact back (i + 1) ⟨by omega, allTo_step hi.2 hlt (lowB_ok ha hz)⟩ (by omega) rfl (by simp <;> omega) (by simp) (by simp)
  · have hd := allTo_done hi.2 (by omega)
    have hd2 : nameOk s = true := by rw [nameOk_ok hd, decide_eq_true hlen]
    simp [hlt, hd2]
theorem w_impl_IsValidName (s : List UInt8) : VC Tryz.prog 172 [.d (.str s)] (fun _ r => r = .d (.bool (nameOk s))) := by
  refine VC.ofL EP s172 (by kernel_rfl) Tryz.func172 (by rfl) (by kernel_rfl) (by simp [Tryz.f172]) (by simp [Tryz.f172]) s172_ok fun B hl => ?_
  simp [Tryz.f172, ]
  refine call_f (w_impl_isLetters s) (by simp) rfl fun hs1 hh1 => ?_
  simp
theorem w_spec_IsValidName (s : List UInt8) (hb : s.length ≤ maxLen) : VC Tryz.prog 164 [.d (.str s)] (fun _ r => r = .d (.bool (nameOk s))) := by
  refine VC.ofL EP s164 (by kernel_rfl) Tryz.func164 (by rfl) (by kernel_rfl) (by simp [Tryz.f164]) (by simp [Tryz.f164]) s164_ok fun B hl => ?_
  simp only [maxLen] at hb
  simp [Tryz.f164, ]
  refine loop_rule (X := Nat) (fun i => i ≤ s.length ∧ AllTo lowB s i) (fun i => [(0, .d (.str s)), (3, .d (.int .i64 i))]) (fun _ => []) (fun i => s.length - i) 0 ⟨by simp, allTo_zero⟩ (by simp) (by simp) ?_
  intro i hs t m hi hh
  by_cases hlt : i < s.length
  · have hwi := wr1 (i := i) (by omega)
    by_cases ha : ((s[i]).toNat : Int) < 97
    · have hbad := nameOk_bad (all_bad (p := lowB) hlt (lowB_lo ha))
      simp [hlt, ha, hbad, ]
    · by_cases hz : (122 : Int) < ((s[i]).toNat : Int)
      · have hbad := nameOk_bad (all_bad (p := lowB) hlt (lowB_hi hz))
        simp [hlt, ha, hz, hbad, ]
      · simp [hlt, ha, hz, hwi, ]
        exact back (i + 1) ⟨by omega, allTo_step hi.2 hlt (lowB_ok ha hz)⟩ (by omega) rfl (by simp <;> omega) (by simp) (by simp)
  · have hd := allTo_done hi.2 (by omega)
    simp [hlt, ]
    refine call_f (w_spec_l1In s.length 1 4) (by simp) rfl fun hs1 hh1 => ?_
    have e : inR (s.length : Int) 1 4 = decide (1 ≤ s.length ∧ s.length ≤ 4) := by
      simp only [inR, ← Bool.decide_and]; congr 1; apply propext; omega
    rw [e, nameOk_ok hd]
    simp
theorem w_impl_isSetOf (l : List Int) (n : Int) : VC Tryz.prog 171 [.d (pS cI l), .d (.int .i64 n)] (fun _ r => r = .d (.bool (setOf l n))) := by
  refine VC.ofL EP s171 (by kernel_rfl) Tryz.func171 (by rfl) (by kernel_rfl) (by simp [Tryz.f171]) (by simp [Tryz.f171]) s171_ok fun B hl => ?_
  simp [pS, maxLen] at hl
  simp [Tryz.f171, ]
  refine loop_rule (X := Nat) (SetTo l n) (fun i => [(0, .d (.pl (l.map cI))), (1, .d (.int .i64 n)), (7, .d (.pl (l.map cI))), (8, .d (.int .i64 l.length)), (9, .d (.int .i64 i))]) (fun _ => []) (fun i => l.length - i) 0 .zero (by simp) (by simp) ?_
  intro i hs t m hi hh
  have hil := hi.le
  by_cases hlt : i < l.length
  · have hwi := wr1 (i := i) (by omega)
    simp [hlt, ]
    refine call_f (w_impl_within l[i] 0 (IntKind.i64.wrap (n - 1))) (by simp) rfl fun hs1 hh1 => ?_
    simp at hh1
    cases h1 : inR l[i] 0 (IntKind.i64.wrap (n - 1))
    · simp [setOf_bad1 hlt h1]
    simp [hil, ← List.map_take, ]
    refine call_f (w_impl_hasInt (l.take i) l[i]) (by simp) rfl fun hs2 hh2 => ?_
    simp at hh2
    by_cases h2 : l[i] ∈ l.take i
    · simp [h2, setOf_bad2 hlt h2]
    simp [h2, hwi, ]
    exact back (i + 1) (hi.step hlt h1 h2) (by omega) rfl (by simp <;> omega) (by simp) (by simp)
  · have hd := hi.done (by omega)
    simp [hlt, hd]
end

end Go.Proofs.YtdnbigokdclclaaGreat


namespace Go.Proofs.YtdnbigokdclclaaGreat
open Go.Vs Go.Proofs Go
set_option maxRecDepth 100000
set_option maxHeartbeats 1000000

section
attribute [local simp] plI_id plStr_id map_plI map_plStr pS cP cI cStr cU8 cB eAtom
theorem w_spec_IsValidQuery (q : PQuery) (hst : ∀ a ∈ q.atoms, a.rel.length ≤ maxLen) : VC Tryz.prog 121 [.agg ((eQuery q).map V.d)] (fun _ r => r = .d (.bool (queryOk q))) := by
  refine VC.ofL EP s121 (by kernel_rfl) Tryz.func121 (by rfl) (by kernel_rfl) (by simp [Tryz.f121]) (by simp [Tryz.f121]) s121_ok fun B hl => ?_
  obtain ⟨n, ats, out⟩ := q
  simp only at hst
  simp [pS, maxLen, eQuery] at hl
  simp [Tryz.f121, s121_11, s121_26, s121_11, s121_26, eQuery]
  refine call_f (w_spec_l1In n 1 5) (by simp) rfl fun hs1 hh1 => ?_
  simp at hh1
  cases h1 : inR n 1 5
  · simp [queryOk_n (q := ⟨n, ats, out⟩) h1]
  have hn : 1 ≤ n ∧ n ≤ 5 := by simpa [inR] using h1
  simp [s121_11, s121_26, eQuery]
  refine call_f (w_spec_l1In ats.length 1 4) (by simp) rfl fun hs2 hh2 => ?_
  simp at hh2
  cases h2 : inR (ats.length : Int) 1 4
  · simp [queryOk_a (q := ⟨n, ats, out⟩) h2]
  have ha4 : ats.length ≤ 4 := by simp [inR] at h2; omega
  by_cases h3 : n < out.length
  · have hso : setOf out n = false := by
      cases hs : setOf out n
      · rfl
      · have := setOf_len hn hs; omega
    simp [h3, queryOk_o (q := ⟨n, ats, out⟩) hso]
  have hrw : ∀ i (h : i < ats.length), ats[i].rel.length ≤ maxLen := fun i h => hst _ (List.getElem_mem h)
  have hvl : ∀ i (h : i < ats.length), ats[i].vars.length ≤ 9223372036854775807 := fun i h => (hl.1.2 _ (List.getElem_mem h))
  simp [h3]
  refine loop_rule (X := Nat) (AtI n ats) (fun i => [(1, .ptr 1 0 0), (3, .d (.int .i64 i))]) (fun _ => [(1, some (.box [.d (.int .i64 n), .d (.pl (ats.map eAtom)), .d (.pl (out.map cI))]))]) (fun i => ats.length - i) 0 .zero (by simp) (by simp) ?_
  intro i hs t m hi hh
  have hil := hi.le
  by_cases hlt : i < ats.length
  · have hwi := wr1 (i := i) (by omega)
    have hbad : atomOk n ats[i] = false → queryOk ⟨n, ats, out⟩ = false := fun h => queryOk_at (q := ⟨n, ats, out⟩) hlt h
    simp [hlt, s121_11, s121_26, ]
    refine call_f (w_spec_IsValidName ats[i].rel (hrw i hlt)) (by simp) rfl fun hs3 hh3 => ?_
    simp at hh3
    cases h4 : nameOk ats[i].rel
    · simp [hbad (by simp only [atomOk, h4, Bool.false_and])]
    simp [hlt, s121_11, s121_26, ]
    refine call_f (w_spec_l1In ats[i].vars.length 1 5) (by simp) rfl fun hs4 hh4 => ?_
    simp at hh4
    cases h5 : inR (ats[i].vars.length : Int) 1 5
    · simp [hbad (by simp only [atomOk, h5, Bool.false_and, Bool.and_false])]
    simp [s121_11, s121_26, ]
    refine loop_rule (X := Nat) (AtK n ats[i].vars) (fun k => [(1, .ptr 1 0 0), (3, .d (.int .i64 i)), (4, .d (.int .i64 k))]) (fun _ => [(1, some (.box [.d (.int .i64 n), .d (.pl (ats.map eAtom)), .d (.pl (out.map cI))]))]) (fun k => ats[i].vars.length - k) 0 .zero (by simp) (by simp) ?_
    intro k hs t m hk hh
    have hkl := hk.le
    have hvi := hvl i hlt
    by_cases hkt : k < ats[i].vars.length
    · have hwk := wr1 (i := k) (by omega)
      cases h6 : inR ats[i].vars[k] 0 (IntKind.i64.wrap (n - 1))
      · have hq := hbad (atomOk_bad hkt h6)
        simp [hlt, hkt, s121_11, s121_26, ]
        refine call_f (VC.to (w_spec_l1In ats[i].vars[k] 0 (IntKind.i64.wrap (n - 1))) (show _ = V.d (.bool false) by rw [h6])) (by simp) rfl fun hs5 hh5 => ?_
        simp [hq]
      · refine anyQ fun Q => ?_
        simp [hlt, hkt, s121_11, s121_26, ]
        refine call_f (VC.to (w_spec_l1In ats[i].vars[k] 0 (IntKind.i64.wrap (n - 1))) (show _ = V.d (.bool true) by rw [h6])) (by simp) rfl fun hs5 hh5 => ?_
        simp at hh5
        simp [hwk, s121_11, s121_26, ]
        exact back (k + 1) (hk.step hkt h6) (by omega) rfl (by simp <;> omega) (by simp) (by simp)
    · have hao := atomOk_done hk (by omega) h4 h5
      simp [hlt, hkt, hwi, s121_11, s121_26, ]
      exact back (i + 1) (hi.step hlt hao) (by omega) rfl (by simp <;> omega) (by simp) (by simp)
  have hall := allTo_done hi.ok (by omega)
  simp [hlt, s121_11, s121_26, ]
  refine loop_rule (X := Nat) (UsTo n ats) (fun v => [(1, .ptr 1 0 0), (5, .d (.int .i64 v))]) (fun _ => [(1, some (.box [.d (.int .i64 n), .d (.pl (ats.map eAtom)), .d (.pl (out.map cI))]))]) (fun v => n.toNat - v) 0 .zero (by simp) (by simp) ?_
  intro v hs t m hv hh
  have hvn := hv.le
  by_cases hvt : v < n.toNat
  · have hwv := wr1 (i := v) (by omega)
    have hvt' : (v : Int) < n := by omega
    simp [hvt', s121_11, s121_26, ]
    refine loop_rule (X := Nat) (fun i => i ≤ ats.length) (fun i => [(1, .ptr 1 0 0), (5, .d (.int .i64 v)), (6, .d (.bool (hasTo ats v i))), (7, .d (.int .i64 i))]) (fun _ => [(1, some (.box [.d (.int .i64 n), .d (.pl (ats.map eAtom)), .d (.pl (out.map cI))]))]) (fun i => ats.length - i) 0 (by simp) (by simp [hasTo_zero]) (by simp) ?_
    intro i hs t m hi hh
    by_cases hlt : i < ats.length
    · have hwi := wr1 (i := i) (by omega)
      have hst := hasTo_step (v := (v : Int)) hlt
      refine anyQ fun Q => ?_
      cases h6 : hasTo ats v i
      · rw [h6, Bool.false_or] at hst
        simp [hlt, s121_11, s121_26, ]
        refine call_f (w_spec_ContainsVariable ats[i] v) (by simp) rfl fun hs5 hh5 => ?_
        simp at hh5
        simp only [List.contains_eq_mem] at hst
        simp [hwi, s121_11, s121_26, ]
        exact back (i + 1) (by omega) (by omega) rfl (by simp <;> omega) (by simp [hst]) (by simp)
      · rw [h6, Bool.true_or] at hst
        simp [hlt, hwi, s121_11, s121_26, ]
        exact back (i + 1) (by omega) (by omega) rfl (by simp <;> omega) (by simp [hst]) (by simp)
    · have hha := hasTo_all (l := ats) (v := (v : Int)) (i := i) (by omega)
      cases h7 : (varsIn ats).contains (v : Int)
      · rw [h7] at hha
        simp [hlt, hha, queryOk_u (q := ⟨n, ats, out⟩) (usesAll_bad hvt h7), s121_11, s121_26, ]
      · rw [h7] at hha
        simp [hlt, hha, hwv, s121_11, s121_26, ]
        exact back (v + 1) (hv.step hvt h7) (by omega) rfl (by simp <;> omega) (by simp) (by simp)
  have hus := hv.done (by omega)
  have hvt' : ¬ (v : Int) < n := by omega
  simp [hvt', s121_11, s121_26, ]
  refine loop_rule (X := Nat) (SetTo out n) (fun i => [(1, .ptr 1 0 0), (8, .d (.int .i64 i))]) (fun _ => [(1, some (.box [.d (.int .i64 n), .d (.pl (ats.map eAtom)), .d (.pl (out.map cI))]))]) (fun i => out.length - i) 0 .zero (by simp) (by simp) ?_
  intro i hs t m hi hh
  have hil := hi.le
  by_cases hlt : i < out.length
  · have hwi := wr1 (i := i) (by omega)
    simp [hlt, s121_11, s121_26, ]
    refine call_f (w_spec_l1In out[i] 0 (IntKind.i64.wrap (n - 1))) (by simp) rfl fun hs5 hh5 => ?_
    simp at hh5
    cases h6 : inR out[i] 0 (IntKind.i64.wrap (n - 1))
    · simp [queryOk_o (q := ⟨n, ats, out⟩) (setOf_bad1 hlt h6)]
    simp [hil, hlt, ← List.map_take, s121_11, s121_26, ]
    refine call_f (w_spec_l7Find (out.take i) out[i]) (by simp) rfl fun hs6 hh6 => ?_
    simp at hh6
    have hge := idxL_ge (out.take i) out[i]
    by_cases h7 : out[i] ∈ out.take i
    · have h8 : 0 ≤ idxL (out.take i) out[i] := by simpa [h7] using hge
      simp [h8, queryOk_o (q := ⟨n, ats, out⟩) (setOf_bad2 hlt h7)]
    · have h8 : ¬ 0 ≤ idxL (out.take i) out[i] := by simpa [h7] using hge
      simp [h8, hwi, s121_11, s121_26, ]
      exact back (i + 1) (hi.step hlt h6 h7) (by omega) rfl (by simp <;> omega) (by simp) (by simp)
  · have hd := hi.done (by omega)
    simp [hlt, queryOk_all (q := ⟨n, ats, out⟩) h1 h2 hd hall hus]
end

end Go.Proofs.YtdnbigokdclclaaGreat


namespace Go.Proofs.YtdnbigokdclclaaGreat
open Go.Vs Go.Proofs Go
set_option maxRecDepth 100000
set_option maxHeartbeats 1000000

section
attribute [local simp] plI_id plStr_id map_plI map_plStr pS cP cI cStr cU8 cB eAtom
theorem w_impl_IsValidQuery (q : PQuery) : VC Tryz.prog 134 [.agg ((eQuery q).map V.d)] (fun _ r => r = .d (.bool (queryOk q))) := by
  refine VC.ofL EP s134 (by kernel_rfl) Tryz.func134 (by rfl) (by kernel_rfl) (by simp [Tryz.f134]) (by simp [Tryz.f134]) s134_ok fun B hl => ?_
  obtain ⟨n, ats, out⟩ := q
  simp [pS, maxLen, eQuery] at hl
  simp [Tryz.f134, eQuery]
  refine call_f (w_impl_within n 1 5) (by simp) rfl fun hs1 hh1 => ?_
  simp at hh1
  cases h1 : inR n 1 5
  · simp [queryOk_n (q := ⟨n, ats, out⟩) h1]
  have hn : 1 ≤ n ∧ n ≤ 5 := by simpa [inR] using h1
  obtain ⟨N, rfl⟩ : ∃ N : Nat, n = (N : Int) := ⟨n.toNat, by omega⟩
  simp [eQuery]
  refine call_f (w_impl_within ats.length 1 4) (by simp) rfl fun hs2 hh2 => ?_
  simp at hh2
  cases h2 : inR (ats.length : Int) 1 4
  · simp [queryOk_a (q := ⟨N, ats, out⟩) h2]
  have ha4 : ats.length ≤ 4 := by simp [inR] at h2; omega
  simp [eQuery]
  refine call_f (w_impl_isSetOf out N) (by simp) rfl fun hs3 hh3 => ?_
  simp at hh3
  cases h3 : setOf out N
  · simp [queryOk_o (q := ⟨N, ats, out⟩) h3]
  have hvl : ∀ i (h : i < ats.length), ats[i].vars.length ≤ 9223372036854775807 := fun i h => (hl.1.2 _ (List.getElem_mem h))
  have hL : LenOk 1 N := ⟨by omega, by simp only [maxLen]; omega⟩
  have hwN : IntKind.i64.wrap ((N : Int) - 1) = N - 1 := wrap64_of (by omega) (by omega)
  simp [hL, ]
  refine loop_rule (X := Nat) (AtI N ats) (fun i => [(3, .d (.int .i64 N)), (4, .own 31 0 N), (33, .d (.pl (ats.map eAtom))), (34, .d (.int .i64 ats.length)), (35, .d (.int .i64 i))])
    (fun i => [(31, some (.row 4 1 ((usedL N (varsIn (ats.take i))).map cB)))]) (fun i => ats.length - i) 0 .zero (by simp) (by simp [usedL_nil, varsIn]) ?_
  intro i hs t m hi hh
  have hil := hi.le
  by_cases hlt : i < ats.length
  · have hwi := wr1 (i := i) (by omega)
    have hbad : atomOk N ats[i] = false → queryOk ⟨N, ats, out⟩ = false := fun h => queryOk_at (q := ⟨N, ats, out⟩) hlt h
    have hvs : varsIn (ats.take (i + 1)) = varsIn (ats.take i) ++ ats[i].vars := by
      rw [varsIn, List.take_succ_eq_append_getElem hlt, List.flatMap_append]; simp only [varsIn, List.flatMap_cons, List.flatMap_nil, List.append_nil]
    simp [hlt, ]
    refine call_f (w_impl_IsValidName ats[i].rel) (by simp) rfl fun hs3 hh3 => ?_
    simp at hh3
    cases h4 : nameOk ats[i].rel
    · simp [hbad (by simp only [atomOk, h4, Bool.false_and])]
    simp []
    refine call_f (w_impl_within ats[i].vars.length 1 5) (by simp) rfl fun hs4 hh4 => ?_
    simp at hh4
    cases h5 : inR (ats[i].vars.length : Int) 1 5
    · simp [hbad (by simp only [atomOk, h5, Bool.false_and, Bool.and_false])]
    simp []
    obtain ⟨us, hus⟩ : ∃ us, us = varsIn (ats.take i) := ⟨_, rfl⟩
    rw [← hus] at hvs ⊢
    obtain ⟨vs, hvse⟩ : ∃ vs, vs = ats[i].vars := ⟨_, rfl⟩
    have hvi := hvl i hlt
    rw [← hvse] at hvs hvi h5
    refine loop_rule (X := Nat) (AtK N vs) (fun k => [(3, .d (.int .i64 N)), (4, .own 31 0 N), (33, .d (.pl (ats.map eAtom))), (34, .d (.int .i64 ats.length)), (35, .d (.int .i64 i)), (51, .d (.pl (vs.map cI))), (52, .d (.int .i64 vs.length)), (53, .d (.int .i64 k))])
      (fun k => [(31, some (.row 4 1 ((usedL N (us ++ vs.take k)).map cB)))]) (fun k => vs.length - k) 0 .zero (by simp [hvse]) (by simp [hus]) ?_
    intro k hs t m hk hh
    have hkl := hk.le
    by_cases hkt : k < vs.length
    · have hwk := wr1 (i := k) (by omega)
      simp [hkt, ]
      refine call_f (w_impl_within vs[k] 0 (IntKind.i64.wrap ((N : Int) - 1))) (by simp) rfl fun hs5 hh5 => ?_
      simp at hh5
      cases h6 : inR vs[k] 0 (IntKind.i64.wrap ((N : Int) - 1))
      · have hq := hbad (atomOk_bad (k := k) (by rw [← hvse]; exact hkt) (by simpa only [← hvse] using h6))
        simp [hq]
      · have hst := hk.step hkt h6
        rw [hwN] at h6
        simp only [inR, Bool.and_eq_true, decide_eq_true_eq] at h6
        obtain ⟨p, hp⟩ : ∃ p : Nat, vs[k] = (p : Int) := ⟨vs[k].toNat, by omega⟩
        have hpN : p < N := by omega
        have hset : usedL N (us ++ vs.take (k + 1)) = (usedL N (us ++ vs.take k)).set p true := by
          rw [usedL_snoc hpN, List.append_assoc, List.take_succ_eq_append_getElem hkt, hp]
        simp [hp, hpN, hwk, ]
        exact back (k + 1) hst (by omega) rfl (by simp <;> omega) (by simp) (by simp [hset])
    · have hao := atomOk_done (n := N) (a := ats[i]) (k := k) (by rw [← hvse]; exact hk) (by rw [← hvse]; omega) h4 (by rw [← hvse]; exact h5)
      have hd : vs.take k = vs := List.take_of_length_le (by omega)
      simp [hkt, hwi, hd, ]
      exact back (i + 1) (hi.step hlt hao) (by omega) rfl (by simp <;> omega) (by simp) (by simp [hvs])
  have hall := allTo_done hi.ok (by omega)
  have hd : ats.take i = ats := List.take_of_length_le (by omega)
  rw [hd]
  simp [hlt, ]
  have hu := usesAll_iff (n := (N : Int)) (l := ats)
  rw [Int.toNat_natCast] at hu
  refine loop_rule (X := Nat) (fun j => j ≤ N ∧ AllTo id (usedL N (varsIn ats)) j) (fun j => [(67, .own 31 0 N), (68, .d (.int .i64 N)), (69, .d (.int .i64 j))]) (fun _ => [(31, some (.row 4 1 ((usedL N (varsIn ats)).map cB)))]) (fun j => N - j) 0 ⟨by simp, allTo_zero⟩ (by simp) (by simp) ?_
  intro j hs t m hj hh
  by_cases hjt : j < N
  · have hwj := wr1 (i := j) (by omega)
    have hjl : j < (usedL N (varsIn ats)).length := by simpa using hjt
    cases h6 : (usedL N (varsIn ats))[j]
    · have hq : queryOk ⟨N, ats, out⟩ = false := queryOk_u (q := ⟨N, ats, out⟩) (by rw [hu]; exact all_bad (p := id) hjl h6)
      simp [hjt, h6, hq, ]
    · simp [hjt, h6, hwj, ]
      exact back (j + 1) ⟨by omega, allTo_step hj.2 hjl h6⟩ (by omega) rfl (by simp <;> omega) (by simp) (by simp)
  · have hus : usesAll N ats = true := by rw [hu]; exact allTo_done hj.2 (by simp; omega)
    simp [hjt, queryOk_all (q := ⟨N, ats, out⟩) h1 h2 h3 hall hus]
end

end Go.Proofs.YtdnbigokdclclaaGreat


namespace Go.Proofs.YtdnbigokdclclaaGreat
open Go.Vs Go.Proofs Go
set_option maxRecDepth 100000
set_option maxHeartbeats 1000000

section
attribute [local simp] plI_id plStr_id map_plI map_plStr pS cP cI cStr cU8 cB eTab eReln
theorem w_impl_IsValidDatabase (d : PDb) : VC Tryz.prog 135 [.agg ((eDb d).map V.d)] (fun _ r => r = .d (.bool (dbOk d))) := by
  refine VC.ofL EP s135 (by kernel_rfl) Tryz.func135 (by rfl) (by kernel_rfl) (by simp [Tryz.f135]) (by simp [Tryz.f135]) s135_ok fun B hl => ?_
  obtain ⟨l⟩ := d
  by_cases h6 : (6 : Int) < l.length
  · have : dbOk ⟨l⟩ = false := by
      have : ¬ l.length ≤ 6 := by omega
      simp only [dbOk, this, decide_false, Bool.false_and]
    simp [Tryz.f135, s135_6, s135_6, eDb, h6, this]
  simp [Tryz.f135, s135_6, s135_6, eDb, h6]
  refine loop_rule (X := Nat) (DbTo l) (fun i => [(1, .ptr 1 0 0), (10, .d (.pl (l.map eTab))), (11, .d (.int .i64 l.length)), (12, .d (.int .i64 i))]) (fun _ => [(1, some (.box [.d (.pl (l.map eTab))]))]) (fun i => l.length - i) 0 .zero (by simp) (by simp) ?_
  intro i hs t m hi hh
  have hil := hi.le
  by_cases hlt : i < l.length
  case neg =>
    have hd := hi.done (by omega)
    simp [hlt, hd]
    omega
  have hwi := wr1 (i := i) (by omega)
  have hat := dbAt_eq hlt
  have hbad : dbAt l i = false → dbOk ⟨l⟩ = false := dbOk_bad hlt
  obtain ⟨nm, ar, rows, hT⟩ : ∃ nm ar rows, l[i] = ⟨nm, ⟨ar, rows⟩⟩ := ⟨_, _, _, rfl⟩
  rw [hT] at hat
  simp only [tabOk] at hat
  simp [hlt, hT, s135_6, ]
  refine call_f (w_impl_IsValidName nm) (by simp) rfl fun hs1 hh1 => ?_
  simp at hh1
  cases h1 : nameOk nm
  · have hb := hbad (by rw [hat, h1]; simp)
    simp [hb, s135_6, ]
  by_cases h0 : i = 0
  · subst h0
    have hwi0 : IntKind.i64.wrap 1 = 1 := by simpa using hwi
    simp [hT, s135_6, ]
    refine call_f (w_impl_IsValidRelation ⟨ar, rows⟩) (by simp [eReln]) rfl fun hs2 hh2 => ?_
    simp at hh2
    cases h3 : rowsOk ar rows
    · have hb := hbad (by rw [hat, h3]; simp)
      simp [hb, s135_6, ]
    by_cases h4 : ar < 1
    · have hb := hbad (by rw [hat]; have : ¬ 1 ≤ ar := by omega
                          simp [this])
      simp [h4, hb, hT, s135_6, ]
    by_cases h5 : (16 : Int) < rows.length
    · have hb := hbad (by rw [hat]; have : ¬ rows.length ≤ 16 := by omega
                          simp [this])
      simp [h4, h5, hb, hT, s135_6, ]
    have hok : dbAt l 0 = true := by
      have a4 : 1 ≤ ar := by omega
      have a5 : rows.length ≤ 16 := by omega
      rw [hat, h1, h3]; simp [a4, a5]
    simp [h4, h5, hT, hwi0, s135_6, ]
    exact back 1 (hi.step hlt hok) (by omega) rfl (by simp <;> omega) (by simp) (by simp)
  · have h0' : 0 < i := by omega
    have hw : IntKind.i64.wrap ((i : Int) - 1) = ((i - 1 : Nat) : Int) := by rw [wrap64_of (by omega) (by omega)]; omega
    have hlt1 : i - 1 < l.length := by omega
    cases h2 : Op.bytesLess (l[i - 1]'(by omega)).name nm
    · have hb := hbad (by rw [hat, h2]; simp [h0])
      simp [h0, h0', hw, hlt1, hT, h2, hb, s135_6, ]
    simp [h0, h0', hw, hlt1, hT, h2, s135_6, ]
    refine call_f (w_impl_IsValidRelation ⟨ar, rows⟩) (by simp [eReln]) rfl fun hs2 hh2 => ?_
    simp at hh2
    cases h3 : rowsOk ar rows
    · have hb := hbad (by rw [hat, h3]; simp)
      simp [hb, s135_6, ]
    by_cases h4 : ar < 1
    · have hb := hbad (by rw [hat]; have : ¬ 1 ≤ ar := by omega
                          simp [this])
      simp [h4, hb, hT, s135_6, ]
    by_cases h5 : (16 : Int) < rows.length
    · have hb := hbad (by rw [hat]; have : ¬ rows.length ≤ 16 := by omega
                          simp [this])
      simp [h4, h5, hb, hT, s135_6, ]
    have hok : dbAt l i = true := by
      have a4 : 1 ≤ ar := by omega
      have a5 : rows.length ≤ 16 := by omega
      rw [hat, h1, h3]; simp [a4, a5, h2]
    simp [h4, h5, hT, hwi, s135_6, ]
    exact back (i + 1) (hi.step hlt hok) (by omega) rfl (by simp <;> omega) (by simp) (by simp)
theorem w_spec_IsValidDatabase (d : PDb) (hst : ∀ t ∈ d.tabs, t.name.length ≤ maxLen) : VC Tryz.prog 116 [.agg ((eDb d).map V.d)] (fun _ r => r = .d (.bool (dbOk d))) := by
  refine VC.ofL EP s116 (by kernel_rfl) Tryz.func116 (by rfl) (by kernel_rfl) (by simp [Tryz.f116]) (by simp [Tryz.f116]) s116_ok fun B hl => ?_
  obtain ⟨l⟩ := d
  simp [pS, maxLen, eDb] at hl
  simp only at hst
  simp [Tryz.f116, s116_5, s116_5, eDb]
  refine loop_rule (X := Nat) (DbTo l) (fun i => [(1, .ptr 1 0 0), (3, .d (.int .i64 i))]) (fun _ => [(1, some (.box [.d (.pl (l.map eTab))]))]) (fun i => l.length - i) 0 .zero (by simp) (by simp) ?_
  intro i hs t m hi hh
  have hil := hi.le
  by_cases hlt : i < l.length
  case neg =>
    have hd := hi.done (by omega)
    simp [hlt, hd]
    omega
  have hwi := wr1 (i := i) (by omega)
  have hat := dbAt_eq hlt
  have hbad : dbAt l i = false → dbOk ⟨l⟩ = false := dbOk_bad hlt
  obtain ⟨nm, ar, rows, hT⟩ : ∃ nm ar rows, l[i] = ⟨nm, ⟨ar, rows⟩⟩ := ⟨_, _, _, rfl⟩
  rw [hT] at hat
  simp only [tabOk] at hat
  have hnl : nm.length ≤ maxLen := by have := hst l[i] (List.getElem_mem hlt); rwa [hT] at this
  simp [hlt, hT, s116_5, ]
  refine call_f (w_spec_IsValidName nm hnl) (by simp) rfl fun hs1 hh1 => ?_
  simp at hh1
  cases h1 : nameOk nm
  · have hb := hbad (by rw [hat, h1]; simp)
    simp [hb, s116_5, ]
  by_cases h0 : i = 0
  · subst h0
    have hwi0 : IntKind.i64.wrap 1 = 1 := by simpa using hwi
    simp [hT, s116_5, ]
    refine call_f (w_spec_IsValidRelation ⟨ar, rows⟩) (by simp [eReln]) rfl fun hs2 hh2 => ?_
    simp at hh2
    cases h3 : rowsOk ar rows
    · have hb := hbad (by rw [hat, h3]; simp)
      simp [hb, s116_5, ]
    by_cases h5 : (16 : Int) < rows.length
    · have hb := hbad (by rw [hat]; have : ¬ rows.length ≤ 16 := by omega
                          simp [this])
      simp [h5, hb, hT, s116_5, ]
    by_cases h4 : ar < 1
    · have hb := hbad (by rw [hat]; have : ¬ 1 ≤ ar := by omega
                          simp [this])
      simp [h4, h5, hb, hT, s116_5, ]
    have hok : dbAt l 0 = true := by
      have a4 : 1 ≤ ar := by omega
      have a5 : rows.length ≤ 16 := by omega
      rw [hat, h1, h3]; simp [a4, a5]
    simp [h4, h5, hT, hwi0, s116_5, ]
    exact back 1 (hi.step hlt hok) (by omega) rfl (by simp <;> omega) (by simp) (by simp)
  · have h0' : 0 < i := by omega
    have hw : IntKind.i64.wrap ((i : Int) - 1) = ((i - 1 : Nat) : Int) := by rw [wrap64_of (by omega) (by omega)]; omega
    have hlt1 : i - 1 < l.length := by omega
    cases h2 : Op.bytesLess (l[i - 1]'(by omega)).name nm
    · have hb := hbad (by rw [hat, h2]; simp [h0])
      simp [h0, h0', hw, hlt1, hT, h2, hb, s116_5, ]
    simp [h0, h0', hw, hlt1, hT, h2, s116_5, ]
    refine call_f (w_spec_IsValidRelation ⟨ar, rows⟩) (by simp [eReln]) rfl fun hs2 hh2 => ?_
    simp at hh2
    cases h3 : rowsOk ar rows
    · have hb := hbad (by rw [hat, h3]; simp)
      simp [hb, s116_5, ]
    by_cases h5 : (16 : Int) < rows.length
    · have hb := hbad (by rw [hat]; have : ¬ rows.length ≤ 16 := by omega
                          simp [this])
      simp [h5, hb, hT, s116_5, ]
    by_cases h4 : ar < 1
    · have hb := hbad (by rw [hat]; have : ¬ 1 ≤ ar := by omega
                          simp [this])
      simp [h4, h5, hb, hT, s116_5, ]
    have hok : dbAt l i = true := by
      have a4 : 1 ≤ ar := by omega
      have a5 : rows.length ≤ 16 := by omega
      rw [hat, h1, h3]; simp [a4, a5, h2]
    simp [h4, h5, hT, hwi, s116_5, ]
    exact back (i + 1) (hi.step hlt hok) (by omega) rfl (by simp <;> omega) (by simp) (by simp)
end

end Go.Proofs.YtdnbigokdclclaaGreat


namespace Go.Proofs.YtdnbigokdclclaaGreat
open Go.Vs Go.Proofs Go
set_option maxRecDepth 100000
set_option maxHeartbeats 1000000

theorem w_spec_l5Copy (r : PReln) (hb : r.rows.length ≤ 4294967296) (hb2 : ∀ x ∈ r.rows, x.length ≤ 4294967296) : VC Tryz.prog 122 [.agg ((eReln r).map .d)] (fun _ v => v = .agg ((eReln r).map .d)) := by
  obtain ⟨ar, l⟩ := r
  simp only at hb hb2
  refine VC.ofL EP s122 (by kernel_rfl) Tryz.func122 (by rfl) (by kernel_rfl) (by simp [Tryz.f122]) (by simp [Tryz.f122]) s122_ok fun B hl => ?_
  simp [Tryz.f122, s122_5, eReln]
  refine loop_ruleL (X := Nat) (fun i _ => i ≤ l.length) (fun i => [(1, .ptr 1 0 0), (2, .ptr 2 0 0), (3, .ptr 3 0 0), (4, .d (.int .i64 i))])
    (fun i => [(1, some (.box [.d (.int .i64 ar), .d (.pl (l.map (cP cI)))])), (2, some (.box [.d (.int .i64 0), .d (.sl none none [])])), (3, some (.box [.d (.int .i64 ar), .own 25 0 i])), (25, some (.row 26 1 ((l.take i).map (cP cI))))]) (fun i => l.length - i) ?_ ?_
  · refine (lead_box 3 1 25 26 1 [.d (.int .i64 ar), .d (.sl none none [])] (by omega) (by omega) (by omega) (by simp) rfl).bind ?_
    rintro _ rfl
    exact Lead.of ⟨0, by simp, rfl, rfl, Nat.le_refl _, by simp, by simp⟩
  · intro i hs t m hi hh
    by_cases hlt : i < l.length
    · have hwi := wr1 (i := i) (by omega)
      have hL : LenOk 24 (i + 1) := ⟨by omega, by simp only [maxLen]; omega⟩
      have hx := hb2 _ (List.getElem_mem hlt)
      have hL2 : LenOk 8 l[i].length := ⟨by omega, by simp only [maxLen]; omega⟩
      simp [hlt, hL, hL2, hwi, List.take_of_length_le, show min i l.length = i by omega, s122_5, ]
      refine back2 (i + 1) (by omega) (by omega) rfl (by simp <;> omega) (by simp) ?_
      simp
      rw [List.take_succ_eq_append_getElem (by simpa using hlt)]; simp
    · have hn : i = l.length := by omega
      subst hn
      simp [List.take_of_length_le]
theorem w_spec_CountedFromRelation (r : PReln) : VC Tryz.prog 54 [.agg ((eReln r).map .d)] (fun _ v => v = .tup [.agg ((eCnt (cntOf r)).map .d), .d (.bool (rowsOk r.ar r.rows))]) := by
  refine VC.ofL EP s54 (by kernel_rfl) Tryz.func54 (by rfl) (by kernel_rfl) (by simp [Tryz.f54]) (by simp [Tryz.f54]) s54_ok fun B hl => ?_
  simp [eReln, maxLen] at hl
  simp [Tryz.f54, eReln]
  refine call_f (w_spec_IsValidRelation r) (by simp [eReln]) rfl fun hs0 hh0 => ?_
  simp at hh0
  cases h1 : rowsOk r.ar r.rows
  · simp [cntOf, h1, eCnt]
  have hlen := rowsOk_len h1
  have hrow := rowsOk_row h1
  simp
  refine call_p (w_spec_l5Copy r (by omega) (fun x hx => by have := hrow x hx; omega)) (by simp [eReln]) fun hs1 hh1 _ => ?_
  simp at hh1
  simp [eReln]
  refine loop_ruleL (X := Nat) (fun i _ => i ≤ r.rows.length) (fun i => [(1, .ptr 1 0 0), (2, .ptr 2 0 0), (5, .ptr 5 0 0), (6, .d (.int .i64 i))])
    (fun i => [(1, some (.box [.d (.int .i64 r.ar), .d (.pl (r.rows.map (cP cI)))])), (2, some (.box [.d (.int .i64 0), .d (.sl none none []), .d (.sl none none [])])), (5, some (.box [.d (.int .i64 r.ar), .d (.pl (r.rows.map (cP cI))), .own 28 0 i])), (28, some (.row 3 1 ((List.replicate i 1).map cI)))]) (fun i => r.rows.length - i) ?_ ?_
  · refine (lead_box 5 2 28 3 1 [.d (.int .i64 r.ar), .d (.pl (r.rows.map (cP cI))), .d (.sl none none [])] (by omega) (by omega) (by omega) (by simp) rfl).bind ?_
    rintro _ rfl
    exact Lead.of ⟨0, by simp, rfl, rfl, Nat.le_refl _, by simp, by simp⟩
  · intro i hs t m hi hh
    by_cases hlt : i < r.rows.length
    · have hwi := wr1 (i := i) (by omega)
      have hL : LenOk 8 (i + 1) := ⟨by omega, by simp only [maxLen]; omega⟩
      simp [hlt, hL, hwi, ]
      refine back2 (i + 1) (by omega) (by omega) rfl (by simp <;> omega) (by simp) ?_
      simp [List.replicate_succ']
    · have hn : i = r.rows.length := by omega
      subst hn
      simp [cntOf, h1, eCnt, List.take_of_length_le]

end Go.Proofs.YtdnbigokdclclaaGreat


namespace Go.Proofs.YtdnbigokdclclaaGreat
open Go.Vs Go.Proofs Go
set_option maxRecDepth 100000
set_option maxHeartbeats 1000000

section
attribute [local simp] plI_id plStr_id map_plI map_plStr pS cP cI cStr cU8 cB
theorem q_impl_copyInts (l : List Int) (hb : l.length ≤ 4294967296) : VC Tryz.prog 138 [.d (pS cI l)] (fun _ r => r = .d (pS cI l)) := by
  refine VC.ofL EP s138 (by kernel_rfl) Tryz.func138 (by rfl) (by kernel_rfl) (by simp [Tryz.f138]) (by simp [Tryz.f138]) s138_ok fun B hl => ?_
  have hL : LenOk 8 l.length := ⟨by omega, by simp only [maxLen]; omega⟩
  simp [Tryz.f138, hL, List.take_of_length_le]
theorem q_impl_copyRows (l : List (List Int)) (hb : l.length ≤ 4294967296) (hb2 : ∀ r ∈ l, r.length ≤ 4294967296) : VC Tryz.prog 157 [.d (pS (cP cI) l)] (fun _ r => r = .d (pS (cP cI) l)) := by
  refine VC.ofL EP s157 (by kernel_rfl) Tryz.func157 (by rfl) (by kernel_rfl) (by simp [Tryz.f157]) (by simp [Tryz.f157]) s157_ok fun B hl => ?_
  simp [Tryz.f157, ]
  refine loop_ruleL (X := Nat) (fun i _ => i ≤ l.length) (fun i => [(3, .own 16 0 i), (6, .d (.pl (l.map (cP cI)))), (7, .d (.int .i64 l.length)), (8, .d (.int .i64 i))]) (fun i => [(16, some (.row 26 1 ((l.take i).map (cP cI))))]) (fun i => l.length - i) ?_ ?_
  · refine (lead_slot 3 16 26 1 (by omega) (by omega) (by simp)).bind ?_
    rintro _ rfl
    exact Lead.of ⟨0, by omega, rfl, rfl, Nat.le_refl _, by simp, by simp⟩
  intro i hs t m hi hh
  by_cases hlt : i < l.length
  · have hwi := wr1 (i := i) (by omega)
    have hL : LenOk 24 (i + 1) := ⟨by omega, by simp only [maxLen]; omega⟩
    have hmn : min i l.length = i := by omega
    have hst2 : List.take (i + 1) (List.map (cP cI) l) = List.take i (List.map (cP cI) l) ++ [cP cI l[i]] := by
      rw [List.take_succ_eq_append_getElem (by simpa using hlt)]; simp
    simp [hlt, ]
    refine call_p (q_impl_copyInts l[i] (hb2 _ (List.getElem_mem hlt))) (by simp) fun hs1 hh1 hl1 => ?_
    simp at hh1
    simp [hwi, hL, hmn, ]
    exact back2 (i + 1) (by omega) (by omega) rfl (by simp <;> omega) (by simp) (by simp [hst2])
  · have hn : i = l.length := by omega
    subst hn
    simp [List.take_of_length_le]
theorem q_impl_copyRelation (r : PReln) (hb : r.rows.length ≤ 4294967296) (hb2 : ∀ x ∈ r.rows, x.length ≤ 4294967296) : VC Tryz.prog 169 [.agg ((eReln r).map V.d)] (fun _ v => v = .agg ((eReln r).map V.d)) := by
  refine VC.ofL EP s169 (by kernel_rfl) Tryz.func169 (by rfl) (by kernel_rfl) (by simp [Tryz.f169]) (by simp [Tryz.f169]) s169_ok fun B hl => ?_
  simp [Tryz.f169, s169_1, s169_1, eReln]
  refine call_p (q_impl_copyRows r.rows hb hb2) (by simp) fun hs1 hh1 hl1 => ?_
  simp at hh1
  simp [s169_1, ]
theorem w_impl_ContainsRow (r : PReln) (row : List Int) (hb : r.rows.length ≤ 4294967296) : VC Tryz.prog 137 [.agg ((eReln r).map V.d), .d (pS cI row)] (fun _ v => v = .d (.bool (hasR r row))) := by
  refine VC.ofL EP s137 (by kernel_rfl) Tryz.func137 (by rfl) (by kernel_rfl) (by simp [Tryz.f137]) (by simp [Tryz.f137]) s137_ok fun B hl => ?_
  simp [Tryz.f137, eReln]
  refine call_f (w_impl_place r.rows row hb) (by simp) rfl fun hs1 hh1 => ?_
  simp at hh1
  simp []
  refine call_f (w_impl_IsValidRelation r) (by simp [eReln]) rfl fun hs2 hh2 => ?_
  simp at hh2
  cases h : rowsOk r.ar r.rows <;> simp [hasR, h]
theorem w_impl_LookupRelation (d : PDb) (nm : List UInt8) : VC Tryz.prog 130 [.agg ((eDb d).map V.d), .d (.str nm)] (fun _ v => v = .tup [.agg ((eReln (lkR d nm)).map V.d), .d (.bool (lkB d nm))]) := by
  refine VC.ofL EP s130 (by kernel_rfl) Tryz.func130 (by rfl) (by kernel_rfl) (by simp [Tryz.f130]) (by simp [Tryz.f130]) s130_ok fun B hl => ?_
  obtain ⟨l⟩ := d
  simp [Tryz.f130, eDb]
  refine call_f (w_impl_IsValidDatabase ⟨l⟩) (by simp [eDb]) rfl fun hs1 hh1 => ?_
  simp at hh1
  cases h1 : dbOk ⟨l⟩
  · obtain ⟨e1, e2⟩ := lk_no (nm := nm) h1
    simp [e1, e2, eReln]
  have hl6 := dbOk_len h1
  simp only at hl6
  simp
  refine loop_rule (X := Nat) (LkTo l nm) (fun i => [(1, .d (.str nm)), (2, .ptr 2 0 0), (4, .ptr 4 0 0), (11, .d (.pl (l.map eTab))), (12, .d (.int .i64 l.length)), (13, .d (.int .i64 i))]) (fun _ => [(2, some (.box [.d (.pl (l.map eTab))])), (4, some (.box [.d (.int .i64 0), .d (.sl none none [])]))]) (fun i => l.length - i) 0 .zero (by simp) (by simp) ?_
  intro i hs t m hi hh
  by_cases hlt : i < l.length
  · have hwi := wr1 (i := i) (by omega)
    have hr := tabOk_rel (dbOk_tab h1 (List.getElem_mem hlt))
    by_cases he : l[i].name = nm
    · obtain ⟨e1, e2⟩ := hi.found h1 hlt he
      simp [hlt, he, eTab, eReln, ]
      refine call_p (q_impl_copyRelation l[i].rel hr.1 hr.2) (by simp [eReln]) fun hs2 hh2 hl2 => ?_
      simp [e1, e2, eReln]
    · simp [hlt, he, hwi, eTab, eReln, ]
      exact back (i + 1) (hi.step hlt he) (by omega) rfl (by simp <;> omega) (by simp [eTab, eReln]) (by simp [eTab, eReln])
  · obtain ⟨e1, e2⟩ := hi.done (by omega)
    simp [hlt, e1, e2, eReln]
theorem w_impl_applicable (d : PDb) (x : PDelta) : VC Tryz.prog 136 [.agg ((eDb d).map V.d), .agg ((eDelta x).map V.d)] (fun _ v => v = .tup [.agg ((eReln (lkR d x.name)).map V.d), .d (.bool (fitB d x))]) := by
  refine VC.ofL EP s136 (by kernel_rfl) Tryz.func136 (by rfl) (by kernel_rfl) (by simp [Tryz.f136]) (by simp [Tryz.f136]) s136_ok fun B hl => ?_
  obtain ⟨nm, ⟨ia, il⟩, ⟨da, dl⟩⟩ := x
  simp [Tryz.f136, s136_3, eDb, eDelta, eReln]
  refine call_p (w_impl_LookupRelation d nm) (by simp [eDb]) fun hs1 hh1 hl1 => ?_
  simp at hh1
  obtain ⟨⟨ra, rl⟩, hr⟩ : ∃ r, r = lkR d nm := ⟨_, rfl⟩
  rw [← hr]
  cases h1 : lkB d nm
  · simp [eReln, fitB, h1, s136_3, ← hr]
  simp [eReln]
  refine call_f (w_impl_IsValidRelation ⟨ia, il⟩) (by simp [eReln]) rfl fun hs2 hh2 => ?_
  simp at hh2
  cases h2 : rowsOk ia il
  · simp [eReln, fitB, h1, h2, s136_3, ← hr]
  simp [eReln]
  refine call_f (w_impl_IsValidRelation ⟨da, dl⟩) (by simp [eReln]) rfl fun hs3 hh3 => ?_
  simp at hh3
  cases h3 : rowsOk da dl
  · simp [eReln, fitB, h1, h2, h3, s136_3, ← hr]
  by_cases h4 : ia = ra
  case neg => simp [eReln, fitB, h1, h2, h3, h4, s136_3, ← hr]
  subst h4
  by_cases h5 : da = ia
  case neg => simp [eReln, fitB, h1, h2, h3, h5, s136_3, ← hr]
  subst h5
  simp [eReln, fitB, h1, h2, h3, s136_3, ← hr]
theorem w_spec_LookupRelation (d : PDb) (nm : List UInt8) (hst : ∀ t ∈ d.tabs, t.name.length ≤ maxLen) : VC Tryz.prog 53 [.agg ((eDb d).map V.d), .d (.str nm)] (fun _ v => v = .tup [.agg ((eReln (lkR d nm)).map V.d), .d (.bool (lkB d nm))]) := by
  refine VC.ofL EP s53 (by kernel_rfl) Tryz.func53 (by rfl) (by kernel_rfl) (by simp [Tryz.f53]) (by simp [Tryz.f53]) s53_ok fun B hl => ?_
  obtain ⟨l⟩ := d
  simp [pS, maxLen, eDb] at hl
  simp [Tryz.f53, eDb]
  refine loop_rule (X := Nat) (LkTo l nm) (fun i => [(1, .d (.str nm)), (2, .ptr 2 0 0), (4, .ptr 4 0 0), (6, .d (.int .i64 i))]) (fun _ => [(2, some (.box [.d (.pl (l.map eTab))])), (4, some (.box [.d (.int .i64 0), .d (.sl none none [])]))]) (fun i => l.length - i) 0 .zero (by simp) (by simp) ?_
  intro i hs t m hi hh
  by_cases hlt : i < l.length
  · have hwi := wr1 (i := i) (by omega)
    simp [hlt, ]
    refine call_f (w_spec_IsValidDatabase ⟨l⟩ hst) (by simp [eDb]) rfl fun hs1 hh1 => ?_
    simp at hh1
    cases h1 : dbOk ⟨l⟩
    · obtain ⟨e1, e2⟩ := lk_no (nm := nm) h1
      simp [e1, e2, eReln, ]
    have hr := tabOk_rel (dbOk_tab h1 (List.getElem_mem hlt))
    by_cases he : l[i].name = nm
    · obtain ⟨e1, e2⟩ := hi.found h1 hlt he
      simp [hlt, he, eTab, eReln, ]
      refine call_p (w_spec_l5Copy l[i].rel hr.1 hr.2) (by simp [eReln]) fun hs2 hh2 hl2 => ?_
      simp [e1, e2, eReln]
    · simp [hlt, he, hwi, eTab, eReln, ]
      exact back (i + 1) (hi.step hlt he) (by omega) rfl (by simp <;> omega) (by simp [eTab, eReln]) (by simp [eTab, eReln])
  · obtain ⟨e1, e2⟩ := hi.done (by omega)
    simp [hlt, e1, e2, eReln, ]
theorem w_spec_l26Fits (d : PDb) (x : PDelta) (hst : ∀ t ∈ d.tabs, t.name.length ≤ maxLen) : VC Tryz.prog 120 [.agg ((eDb d).map V.d), .agg ((eDelta x).map V.d)] (fun _ v => v = .d (.bool (fitB d x))) := by
  refine VC.ofL EP s120 (by kernel_rfl) Tryz.func120 (by rfl) (by kernel_rfl) (by simp [Tryz.f120]) (by simp [Tryz.f120]) s120_ok fun B hl => ?_
  obtain ⟨nm, ⟨ia, il⟩, ⟨da, dl⟩⟩ := x
  simp [Tryz.f120, eDb, eDelta, eReln]
  refine call_p (w_spec_LookupRelation d nm hst) (by simp [eDb]) fun hs1 hh1 hl1 => ?_
  simp at hh1
  obtain ⟨⟨ra, rl⟩, hr⟩ : ∃ r, r = lkR d nm := ⟨_, rfl⟩
  rw [← hr]
  cases h1 : lkB d nm
  · simp [eReln, fitB, h1, ← hr]
  simp [eReln]
  refine call_f (w_spec_IsValidRelation ⟨ia, il⟩) (by simp [eReln]) rfl fun hs2 hh2 => ?_
  simp at hh2
  cases h2 : rowsOk ia il
  · simp [eReln, fitB, h1, h2, ← hr]
  simp [eReln]
  refine call_f (w_spec_IsValidRelation ⟨da, dl⟩) (by simp [eReln]) rfl fun hs3 hh3 => ?_
  simp at hh3
  cases h3 : rowsOk da dl
  · simp [eReln, fitB, h1, h2, h3, ← hr]
  by_cases h4 : ia = ra
  case neg => simp [eReln, fitB, h1, h2, h3, h4, ← hr]
  subst h4
  by_cases h5 : da = ia
  case neg => simp [eReln, fitB, h1, h2, h3, h5, ← hr]
  subst h5
  simp [eReln, fitB, h1, h2, h3, ← hr]
end

end Go.Proofs.YtdnbigokdclclaaGreat


namespace Go.Proofs.YtdnbigokdclclaaGreat
open Go.Vs Go.Proofs Go
set_option maxRecDepth 100000
set_option maxHeartbeats 1000000

section
attribute [local simp] plI_id plStr_id map_plI map_plStr pS cP cI cStr cU8 cB
theorem w_spec_Difference (a b : PReln) : VC Tryz.prog 102 [.agg ((eReln a).map V.d), .agg ((eReln b).map V.d)] (fun _ v => v = .tup [.agg ((eReln (difR a b)).map V.d), .d (.bool (difB a b))]) := by
  refine VC.ofL EP s102 (by kernel_rfl) Tryz.func102 (by rfl) (by kernel_rfl) (by simp [Tryz.f102]) (by simp [Tryz.f102]) s102_ok fun B hl => ?_
  obtain ⟨aa, al⟩ := a
  obtain ⟨ba, bl⟩ := b
  simp [Tryz.f102, s102_7, s102_9, eReln]
  refine call_f (w_spec_IsValidRelation ⟨aa, al⟩) (by simp [eReln]) rfl fun hs1 hh1 => ?_
  simp at hh1
  cases h1 : rowsOk aa al
  · simp [difR, difB, h1, eReln]
  simp
  refine call_f (w_spec_IsValidRelation ⟨ba, bl⟩) (by simp [eReln]) rfl fun hs2 hh2 => ?_
  simp at hh2
  cases h2 : rowsOk ba bl
  · simp [difR, difB, h1, h2, eReln]
  by_cases h3 : aa = ba
  case neg => simp [difR, difB, h1, h2, h3, eReln]
  subst h3
  have hdb : difB ⟨aa, al⟩ ⟨aa, bl⟩ = true := by simp [difB, h1, h2]
  have hdr : difR ⟨aa, al⟩ ⟨aa, bl⟩ = ⟨aa, difL al bl⟩ := by simp only [difR, hdb, if_true]
  rw [hdb, hdr]
  have hal := rowsOk_len h1
  have hbl := rowsOk_len h2
  have hrow := rowsOk_row h1
  simp
  refine loop_ruleL (X := Nat) (fun i _ => i ≤ al.length) (fun i => [(2, .ptr 2 0 0), (3, .ptr 3 0 0), (4, .ptr 4 0 0), (6, .ptr 6 0 0), (7, .d (.int .i64 i))])
    (fun i => [(2, some (.box [.d (.int .i64 aa), .d (.pl (al.map (cP cI)))])), (3, some (.box [.d (.int .i64 aa), .d (.pl (bl.map (cP cI)))])), (4, some (.box [.d (.int .i64 0), .d (.sl none none [])])), (6, some (.box [.d (.int .i64 aa), .own 58 0 (difL (al.take i) bl).length])), (58, some (.row 26 1 ((difL (al.take i) bl).map (cP cI))))]) (fun i => al.length - i) ?_ ?_
  · refine (lead_box 6 1 58 26 1 [.d (.int .i64 aa), .d (.sl none none [])] (by omega) (by omega) (by omega) (by simp) rfl).bind ?_
    rintro _ rfl
    exact Lead.of ⟨0, by omega, rfl, rfl, Nat.le_refl _, by simp, by simp [difL]⟩
  intro i hs t m hi hh
  by_cases hlt : i < al.length
  · have hwi := wr1 (i := i) (by omega)
    have hst := difL_step (b := bl) hlt
    have hdl := difL_len (al.take i) bl
    rw [List.length_take] at hdl
    have hL1 : LenOk 8 al[i].length := by
      have := hrow _ (List.getElem_mem hlt)
      exact ⟨by omega, by simp only [maxLen]; omega⟩
    have hL2 : LenOk 24 ((difL (al.take i) bl).length + 1) := ⟨by omega, by simp only [maxLen]; omega⟩
    simp [hlt, s102_7, s102_9, ]
    refine call_f (w_spec_l5Place ⟨aa, bl⟩ al[i] (by show bl.length ≤ _; omega)) (by simp [eReln]) rfl fun hs3 hh3 => ?_
    simp at hh3
    cases h4 : placeB bl al[i]
    · rw [h4] at hst
      simp only [Bool.false_eq_true, if_false] at hst
      simp [hlt, hwi, hL1, hL2, List.take_of_length_le, s102_7, s102_9, ]
      exact back2 (i + 1) (by omega) (by omega) rfl (by simp <;> omega) (by simp) (by simp [hst])
    · rw [h4] at hst
      simp only [if_true, List.append_nil] at hst
      simp [hwi, s102_7, s102_9, ]
      exact back2 (i + 1) (by omega) (by omega) rfl (by simp <;> omega) (by simp) (by simp [hst])
  · have hn : i = al.length := by omega
    subst hn
    simp [List.take_of_length_le]
theorem w_spec_NormalizeDelta (d : PDb) (x : PDelta) (hst : ∀ t ∈ d.tabs, t.name.length ≤ maxLen) : VC Tryz.prog 50 [.agg ((eDb d).map V.d), .agg ((eDelta x).map V.d)] (fun _ v => v = .tup [.agg ((eDelta (norP d x)).map V.d), .d (.bool (fitB d x))]) := by
  refine VC.ofL EP s50 (by kernel_rfl) Tryz.func50 (by rfl) (by kernel_rfl) (by simp [Tryz.f50]) (by simp [Tryz.f50]) s50_ok fun B hl => ?_
  simp [Tryz.f50, eDb, eDelta, eReln]
  refine call_f (w_spec_l26Fits d x hst) (by simp [eDb, eDelta, eReln]) rfl fun hs1 hh1 => ?_
  simp at hh1
  cases h1 : fitB d x
  · simp [norP, h1, eDelta, eReln, ]
  obtain ⟨e1, e2⟩ := nor_dif h1
  have e3 : norP d x = ⟨x.name, ⟨(lkR d x.name).ar, norI (lkR d x.name) x.ins.rows⟩, ⟨(lkR d x.name).ar, norD (lkR d x.name) x.ins x.del.rows⟩⟩ := by simp only [norP, h1, if_true]
  obtain ⟨r, hr⟩ : ∃ r, r = lkR d x.name := ⟨_, rfl⟩
  simp []
  refine call_p (w_spec_LookupRelation d x.name hst) (by simp [eDb]) fun hs2 hh2 hl2 => ?_
  simp at hh2
  rw [← hr] at e1 e2 e3 ⊢
  simp [eReln, ]
  refine call_p (w_spec_Difference x.ins r) (by simp [eReln]) fun hs3 hh3 hl3 => ?_
  simp at hh3
  rw [e1]
  simp [eReln, ]
  refine call_p (w_spec_Difference x.del x.ins) (by simp [eReln]) fun hs4 hh4 hl4 => ?_
  simp at hh4
  obtain ⟨go, hgo⟩ : ∃ go, go = difR x.del x.ins := ⟨_, rfl⟩
  rw [← hgo] at e2 ⊢
  simp [eReln, ]
  refine call_p (w_spec_Difference go r) (by simp [eReln]) fun hs5 hh5 hl5 => ?_
  simp at hh5
  obtain ⟨nt, hnt⟩ : ∃ nt, nt = difR go r := ⟨_, rfl⟩
  rw [← hnt] at e2 ⊢
  simp [eReln, ]
  refine call_p (w_spec_Difference go nt) (by simp [eReln]) fun hs6 hh6 hl6 => ?_
  rw [e2, e3]
  simp [eReln, eDelta, ]
end

end Go.Proofs.YtdnbigokdclclaaGreat


namespace Go.Proofs.YtdnbigokdclclaaGreat
open Go.Vs Go.Proofs Go
set_option maxRecDepth 100000
set_option maxHeartbeats 1000000

theorem w_impl_copyInts (a : Ints) (ha : okS okI a) (hb : a.xs.length ≤ 4294967296) :
   VC Tryz.prog 138 [.d (dSl cI a)] (fun n r => ∃ y : Sl Int, r = .d (dSl cI y) ∧ plS plI y = plS plI a ∧ okS okI y ∧ Good (cS cI y) (whS whI y) n) := by
  refine VC.of E s138 (by kernel_rfl) Tryz.func138 (by rfl) (by kernel_rfl) (by simp [Tryz.f138]) (by simp [Tryz.f138]) s138_ok fun B => ?_
  have hL : LenOk 8 a.xs.length := ⟨by omega, by simp only [maxLen]; omega⟩
  simp [Tryz.f138, dSl, hL, cI]
  intro γ hs' h1 hg
  obtain ⟨q1, q2⟩ := gam_at hg (k := 3) (T := 3) (sz := 1) (es := a.xs.map cI) (by simp [cI])
  have q3 := gam_row hg (k := 3) (T := 3) (sz := 1) (es := a.xs.map cI) (by simp [cI])
  clear hg
  refine ⟨⟨γ 3, some (3, 1), a.xs⟩, ⟨⟨rfl, rfl, by simp [List.take_of_length_le]⟩, rfl, ha, good_row (fun g hg => (q1 g hg).1) (by simpa using q2) q3 ⟨by simp, by simp⟩ (by simp [whI])⟩⟩
end Go.Proofs.YtdnbigokdclclaaGreat


namespace Go.Proofs.YtdnbigokdclclaaGreat
open Go.Vs Go.Proofs Go
set_option maxRecDepth 100000
set_option maxHeartbeats 1000000

theorem t_impl_NormalizeDelta (d : Db) (x : Delta) (hd : okDb d) (hx : okDelta x) : VC Tryz.prog 66 [.agg ((cDb d).map V.d), .agg ((cDelta x).map V.d)]
   (fun n r => ∃ y : Delta, r = .tup [.agg ((cDelta y).map V.d), .d (.bool (fitB (plDb d) (plDelta x)))] ∧ plDelta y = norP (plDb d) (plDelta x) ∧ okDelta y ∧ Good (cDelta y) (whDelta y) n) := by
  refine VC.of E s66 (by kernel_rfl) Tryz.func66 (by rfl) (by kernel_rfl) (by simp [Tryz.f66]) (by simp [Tryz.f66]) s66_ok fun B => ?_
  obtain ⟨nm, ⟨ia, ⟨iid, iT, il⟩⟩, ⟨da, ⟨did, dT, dl⟩⟩⟩ := x
  obtain ⟨X, hX⟩ : ∃ X, X = plDelta ⟨nm, ⟨ia, ⟨iid, iT, il⟩⟩, ⟨da, ⟨did, dT, dl⟩⟩⟩ := ⟨_, rfl⟩
  have hXn : X.name = nm := by rw [hX]; rfl
  have hXi : X.ins = ⟨ia, il.map (plS plI)⟩ := by rw [hX]; rfl
  have hXd : X.del = ⟨da, dl.map (plS plI)⟩ := by rw [hX]; rfl
  rw [← hX]
  simp [Tryz.f66, s66_9, s66_15, s66_9, s66_15, cDb, cDelta, cReln, cStr, cS, cI, dSl]
  refine call_p (w_impl_applicable (plDb d) X) (by simp [hX, eDb, plDb, er_Tab, eDelta, plDelta, eReln, plReln, plStr, plI, pS, cP, cI, cStr, plS, erLL_map er_cI, erLL_map (er_cS er_cI), erLL_map er_cTab, map_plI]) fun hs1 hh1 hl1 => ?_
  simp at hh1
  obtain ⟨⟨ra, rl⟩, hr⟩ : ∃ r, r = lkR (plDb d) X.name := ⟨_, rfl⟩
  rw [← hr]
  cases h1 : fitB (plDb d) X
  · simp [eReln, s66_9, s66_15, ]
    exact ⟨⟨[], ⟨0, nilS⟩, ⟨0, nilS⟩⟩, by simp [nilS], by simp [norP, h1, plDelta, plReln, plStr, plI, nilS, plS], ⟨by simp [okStr], ⟨trivial, ok_nilS⟩, ⟨trivial, ok_nilS⟩⟩, good_Delta0 B⟩
  simp [eReln, cI, pS, cP, s66_9, s66_15, ]
  have h1' := h1
  simp only [fitB, Bool.and_eq_true, decide_eq_true_eq] at h1'
  obtain ⟨⟨⟨⟨g1, g2⟩, g3⟩, g4⟩, g5⟩ := h1'
  have g0 := lk_ok g1
  rw [← hr] at g0
  rw [hXi] at g2
  rw [hXd] at g3
  simp only at g0 g2 g3
  have hrl := rowsOk_len g0
  have hil := rowsOk_len g2
  have hdl := rowsOk_len g3
  have hil' : il.length ≤ 4000 := by simpa using hil
  have hdl' : dl.length ≤ 4000 := by simpa using hdl
  have hi5 : ∀ y ∈ il, y.xs.length ≤ 4294967296 := fun y hy => by
    have := rowsOk_row g2 (plS plI y) (List.mem_map_of_mem hy)
    simp only [plS, List.length_map] at this; omega
  have hd5 : ∀ y ∈ dl, y.xs.length ≤ 4294967296 := fun y hy => by
    have := rowsOk_row g3 (plS plI y) (List.mem_map_of_mem hy)
    simp only [plS, List.length_map] at this; omega
  refine loop_ruleL (X := Nat × List Ints) (NorI (norI ⟨ra, rl⟩) (il.map (plS plI)) B) (fun p => [(3, .ptr 3 0 0), (4, .ptr 4 0 0), (6, .ptr 6 0 0), (8, .ptr 8 0 0), (33, .d (.sl iid iT (il.map (cS cI)))), (34, .d (.int .i64 il.length)), (35, .d (.int .i64 p.1))])
    (fun p => [(3, some (.box [.d (.str nm), .d (.int .i64 ia), .d (.sl iid iT (il.map (cS cI))), .d (.int .i64 da), .d (.sl did dT (dl.map (cS cI)))])), (4, some (.box [.d (.str []), .d (.int .i64 0), .d (.sl none none []), .d (.int .i64 0), .d (.sl none none [])])), (6, some (.box [.d (.int .i64 ra), .d (.pl (rl.map (cP cI)))])),
      (8, some (.box [.d (.str nm), .d (.int .i64 ra), .own 49 0 p.2.length, .d (.int .i64 ra), .d (.sl none none [])])), (49, some (.row 26 1 (p.2.map (cS cI))))]) (fun p => il.length - p.1) ?_ ?_
  · refine (lead_box 8 2 49 26 1 [.d (.str nm), .d (.int .i64 ra), .d (.sl none none []), .d (.int .i64 ra), .d (.sl none none [])] (by omega) (by omega) (by omega) (by simp) rfl).bind ?_
    rintro _ rfl
    exact Lead.of ⟨(0, []), .zero (by simp [norI]), rfl, rfl, Nat.le_refl _, by simp [dSl], by simp [cP, cI]⟩
  rintro ⟨i, ys⟩ hs t m hI hh
  have hile := hI.le
  simp only [List.length_map] at hile
  have hyl : ys.length ≤ i := by
    have e := congrArg List.length hI.pl
    have h2 := norI_len ⟨ra, rl⟩ ((il.map (plS plI)).take i)
    simp only [List.length_map] at e
    rw [List.length_take] at h2
    omega
  by_cases hlt : i < il.length
  · have hwi := wr1 (i := i) (by omega)
    have hlt' : i < (il.map (plS plI)).length := by simpa using hlt
    have hst := norI_step (r := ⟨ra, rl⟩) hlt'
    have hge : (il.map (plS plI))[i] = plS plI il[i] := by simp
    rw [hge] at hst
    have hmem := List.getElem_mem hlt
    have hL : LenOk 24 (ys.length + 1) := ⟨by omega, by simp only [maxLen]; omega⟩
    refine anyQ2 fun Q => ?_
    simp [hlt, cS, cI, s66_9, s66_15, ]
    refine call_f (w_impl_ContainsRow ⟨ra, rl⟩ (plS plI il[i]) (by show rl.length ≤ _; omega)) (by simp [eReln, pS, cP, cI, plS, erLL_map er_cI, map_plI, dSl]) rfl fun hs2 hh2 => ?_
    simp at hh2
    cases h2 : hasR ⟨ra, rl⟩ (plS plI il[i])
    · rw [h2] at hst
      simp only [Bool.false_eq_true, if_false] at hst
      simp [hlt, s66_9, s66_15, ]
      refine call_some (w_impl_copyInts il[i] (hx.2.1.2.2 _ hmem) (hi5 _ hmem)) (by simp [dSl]) (by simp) fun n3 hs3 r3 hn3 hm3 hp3 hr3 => ?_
      obtain ⟨y, rfl, hy1, hy2, hy3⟩ := hp3
      simp at hn3
      have hr3' : ∀ g ∈ idsL (cS cI y), g < hs3 := fun g hg => hr3 g (by rw [idsL_cS] at hg; exact hg)
      simp [cS, cI, dSl, hL, hwi, s66_9, s66_15, ]
      exact back2 (i + 1, ys ++ [y]) (hI.snoc hlt' (by rw [hst, hge]) (by rw [hy1, hge]) hy2 (by omega) hm3 hy3 hr3') (by simp only; omega) rfl (by simp <;> omega) (by simp) (by simp [cS, cI, dSl])
    · rw [h2] at hst
      simp only [if_true, List.append_nil] at hst
      simp [hwi, s66_9, s66_15, ]
      exact back2 (i + 1, ys) (hI.skip hlt' hst (by omega)) (by simp only; omega) rfl (by simp <;> omega) (by simp) (by simp [cS, cI, dSl])
  have hia : i = il.length := by omega
  have hpl1 : ys.map (plS plI) = norI ⟨ra, rl⟩ (il.map (plS plI)) := by
    have := hI.pl
    simp only at this
    rwa [List.take_of_length_le (by simp; omega)] at this
  simp [hlt, s66_9, s66_15, ]
  obtain ⟨H, hH⟩ : ∃ H, H = hs := ⟨_, rfl⟩
  have hhi : ∀ g ∈ idsLL (ys.map (cS cI)), g < H := fun g hg => by rw [hH]; exact hI.good.hi g hg
  have hHB : B ≤ H := by omega
  refine loop_ruleL (X := Nat × List Ints) (NorI (norD ⟨ra, rl⟩ X.ins) (dl.map (plS plI)) H) (fun p => [(3, .ptr 3 0 0), (4, .ptr 4 0 0), (6, .ptr 6 0 0), (8, .ptr 8 0 0), (55, .d (.sl did dT (dl.map (cS cI)))), (56, .d (.int .i64 dl.length)), (57, .d (.int .i64 p.1))])
    (fun p => [(3, some (.box [.d (.str nm), .d (.int .i64 ia), .d (.sl iid iT (il.map (cS cI))), .d (.int .i64 da), .d (.sl did dT (dl.map (cS cI)))])), (4, some (.box [.d (.str []), .d (.int .i64 0), .d (.sl none none []), .d (.int .i64 0), .d (.sl none none [])])), (6, some (.box [.d (.int .i64 ra), .d (.pl (rl.map (cP cI)))])),
      (8, some (.box [.d (.str nm), .d (.int .i64 ra), .own 49 0 ys.length, .d (.int .i64 ra), .own 77 0 p.2.length])), (49, some (.row 26 1 (ys.map (cS cI)))), (77, some (.row 26 1 (p.2.map (cS cI))))]) (fun p => dl.length - p.1) ?_ ?_
  · refine (lead_box 8 4 77 26 1 [.d (.str nm), .d (.int .i64 ra), .own 49 0 ys.length, .d (.int .i64 ra), .d (.sl none none [])] (by omega) (by omega) (by omega) (by simp) rfl).bind ?_
    rintro _ rfl
    exact Lead.of ⟨(0, []), .zero (by simp [norD]), rfl, rfl, Nat.le_refl _, by simp, by simp [cP, cI]⟩
  rintro ⟨k, zs⟩ hs t m hJ hh
  have hkle := hJ.le
  simp only [List.length_map] at hkle
  have hzl : zs.length ≤ k := by
    have e := congrArg List.length hJ.pl
    have h2 := norD_len ⟨ra, rl⟩ X.ins ((dl.map (plS plI)).take k)
    simp only [List.length_map] at e
    rw [List.length_take] at h2
    omega
  by_cases hkt : k < dl.length
  · have hwk := wr1 (i := k) (by omega)
    have hkt' : k < (dl.map (plS plI)).length := by simpa using hkt
    have hst := norD_step (r := ⟨ra, rl⟩) (s := X.ins) hkt'
    have hge : (dl.map (plS plI))[k] = plS plI dl[k] := by simp
    rw [hge] at hst
    have hmem := List.getElem_mem hkt
    have hL : LenOk 24 (zs.length + 1) := ⟨by omega, by simp only [maxLen]; omega⟩
    refine anyQ2 fun Q => ?_
    simp [hkt, cS, cI, s66_9, s66_15, ]
    refine call_f (w_impl_ContainsRow ⟨ra, rl⟩ (plS plI dl[k]) (by show rl.length ≤ _; omega)) (by simp [eReln, pS, cP, cI, plS, erLL_map er_cI, map_plI, dSl]) rfl fun hs2 hh2 => ?_
    simp at hh2
    cases h2 : hasR ⟨ra, rl⟩ (plS plI dl[k])
    · rw [h2, Bool.false_and] at hst
      simp only [Bool.false_eq_true, if_false, List.append_nil] at hst
      simp [hwk, s66_9, s66_15, ]
      exact back2 (k + 1, zs) (hJ.skip hkt' hst (by omega)) (by simp only; omega) rfl (by simp <;> omega) (by simp) (by simp [cS, cI, dSl])
    rw [h2, Bool.true_and] at hst
    simp [hkt, cS, cI, dSl, s66_9, s66_15, ]
    refine call_f (w_impl_ContainsRow X.ins (plS plI dl[k]) (by rw [hXi]; simp; omega)) (by simp [hXi, eReln, pS, cP, cI, plS, erLL_map er_cI, erLL_map (er_cS er_cI), map_plI, dSl]) rfl fun hs4 hh4 => ?_
    simp at hh4
    cases h4 : hasR X.ins (plS plI dl[k])
    · rw [h4] at hst
      simp only [Bool.not_false, if_true] at hst
      simp [hkt, s66_9, s66_15, ]
      refine call_some (w_impl_copyInts dl[k] (hx.2.2.2.2 _ hmem) (hd5 _ hmem)) (by simp [dSl]) (by simp) fun n3 hs3 r3 hn3 hm3 hp3 hr3 => ?_
      obtain ⟨y, rfl, hy1, hy2, hy3⟩ := hp3
      simp at hn3
      have hr3' : ∀ g ∈ idsL (cS cI y), g < hs3 := fun g hg => hr3 g (by rw [idsL_cS] at hg; exact hg)
      simp [cS, cI, dSl, hL, hwk, s66_9, s66_15, ]
      exact back2 (k + 1, zs ++ [y]) (hJ.snoc hkt' (by rw [hst, hge]) (by rw [hy1, hge]) hy2 (by omega) hm3 hy3 hr3') (by simp only; omega) rfl (by simp <;> omega) (by simp) (by simp [cS, cI, dSl])
    · rw [h4] at hst
      simp only [Bool.not_true, Bool.false_eq_true, if_false, List.append_nil] at hst
      simp [hwk, s66_9, s66_15, ]
      exact back2 (k + 1, zs) (hJ.skip hkt' hst (Nat.le_trans hh2 hh4)) (by simp only; omega) rfl (by simp <;> omega) (by simp) (by simp [cS, cI, dSl])
  have hpl2 : zs.map (plS plI) = norD ⟨ra, rl⟩ X.ins (dl.map (plS plI)) := by
    have := hJ.pl
    simp only at this
    rwa [List.take_of_length_le (by simp; omega)] at this
  simp [hkt, s66_9, s66_15, ]
  intro γ hs' h2' hg
  obtain ⟨q1, q2⟩ := gam_at hg (k := 49) (T := 26) (sz := 1) (es := ys.map (cS cI)) (by simp)
  obtain ⟨q3, q4⟩ := gam_at hg (k := 77) (T := 26) (sz := 1) (es := zs.map (cS cI)) (by simp)
  have r1 := gam_row hg (k := 49) (T := 26) (sz := 1) (es := ys.map (cS cI)) (by simp)
  have r2 := gam_row hg (k := 77) (T := 26) (sz := 1) (es := zs.map (cS cI)) (by simp)
  have r3 := gam_row2 hg (k := 49) (T := 26) (sz := 1) (es := ys.map (cS cI)) (k2 := 77) (T2 := 26) (sz2 := 1) (es2 := zs.map (cS cI)) (by simp) (by simp)
  have r4 := gam_row2 hg (k := 77) (T := 26) (sz := 1) (es := zs.map (cS cI)) (k2 := 49) (T2 := 26) (sz2 := 1) (es2 := ys.map (cS cI)) (by simp) (by simp)
  have r5 : ∀ g, γ 49 = some g → γ 77 = some g → False := fun g h h' => by
    have := hg.ne 49 77 (.row 26 1 (ys.map (cS cI))) (.row 26 1 (zs.map (cS cI))) g (by simp) (by simp) h h'
    omega
  clear hg
  have hp1 : ∀ l : List Ints, hpLL (l.map (cS cI)) = false := fun l => hpLL_map (fun a => by simp) _
  simp [hp1, List.take_of_length_le]
  refine ⟨⟨nm, ⟨ra, ⟨γ 49, some (26, 1), ys⟩⟩, ⟨ra, ⟨γ 77, some (26, 1), zs⟩⟩⟩, by simp, ?_, ⟨hx.1, ⟨trivial, ⟨by simp only [maxLen]; show ys.length ≤ _; omega, hI.ok⟩⟩, ⟨trivial, ⟨by simp only [maxLen]; show zs.length ≤ _; omega, hJ.ok⟩⟩⟩, ?_⟩
  · have e : norP (plDb d) X = ⟨X.name, ⟨ra, norI ⟨ra, rl⟩ X.ins.rows⟩, ⟨ra, norD ⟨ra, rl⟩ X.ins X.del.rows⟩⟩ := by
      simp only [norP, h1, if_true, ← hr]
    have e2 : plDelta ⟨nm, ⟨ra, ⟨γ 49, some (26, 1), ys⟩⟩, ⟨ra, ⟨γ 77, some (26, 1), zs⟩⟩⟩ = ⟨nm, ⟨ra, ys.map (plS plI)⟩, ⟨ra, zs.map (plS plI)⟩⟩ := rfl
    rw [e, e2, hXn, hXi, hXd, hpl1, hpl2, hXi]
  · have := good_Delta2 (nm := nm) (a1 := ra) (a2 := ra) (T1 := (26, 1)) (T2 := (26, 1)) hI.good.nd (hI.good.lo) hI.good.wh hJ.good.nd (fun g hg => by have := hJ.good.lo g hg; omega) hJ.good.wh
      (fun g hg hg' => by have a1 := hhi g hg; have a2 := hJ.good.lo g hg'; omega) (fun g h => ⟨(q1 g h).1, r1 g h, r3 g h⟩) (by simpa using q2) (fun g h => ⟨(q3 g h).1, r2 g h, r4 g h⟩) (by simpa using q4) r5
    exact this

end Go.Proofs.YtdnbigokdclclaaGreat


namespace Go.Proofs.YtdnbigokdclclaaGreat
open Go.Vs Go.Proofs Go
set_option maxRecDepth 100000
set_option maxHeartbeats 1000000

section
attribute [local simp] plI_id plStr_id map_plI map_plStr
theorem e_impl_copyInts (l : List Int) (hb : l.length ≤ 4294967296) :
   VC Tryz.prog 138 [.d (pS cI l)] (fun n r => ∃ y : Ints, r = .d (dSl cI y) ∧ plS plI y = l ∧ okS okI y ∧ Good (cS cI y) (whS whI y) n) := by
  refine VC.of E s138 (by kernel_rfl) Tryz.func138 (by rfl) (by kernel_rfl) (by simp [Tryz.f138]) (by simp [Tryz.f138]) s138_ok fun B => ?_
  have hL : LenOk 8 l.length := ⟨by omega, by simp only [maxLen]; omega⟩
  simp [Tryz.f138, pS, hL, cI]
  intro γ hs' h1 hg
  obtain ⟨q1, q2⟩ := gam_at hg (k := 3) (T := 3) (sz := 1) (es := l.map cI) (by simp [cI])
  have q3 := gam_row hg (k := 3) (T := 3) (sz := 1) (es := l.map cI) (by simp [cI])
  clear hg
  have hp : hpLL (l.map cI) = false := hpLL_mapI l
  refine ⟨⟨γ 3, some (3, 1), l⟩, by simp [dSl, List.take_of_length_le, cI], by simp [plS], ⟨by simp only [maxLen]; omega, fun _ _ => trivial⟩, good_row (fun g hg => (q1 g hg).1) (by simpa using q2) q3 ⟨by simp, by simp⟩ (by simp [whI])⟩
theorem e_impl_copyRowsT (l : List (List Int)) (hb : l.length ≤ 4294967296) (hb2 : ∀ r ∈ l, r.length ≤ 4294967296) :
   VC Tryz.prog 157 [.d (pS (cP cI) l)] (fun n r => ∃ y : Sl Ints, r = .d (dSl (cS cI) y) ∧ plS (plS plI) y = l ∧ okS (okS okI) y ∧ Good (cS (cS cI) y) (whS (whS whI) y) n ∧ y.T = some (26, 1)) := by
  refine VC.of E s157 (by kernel_rfl) Tryz.func157 (by rfl) (by kernel_rfl) (by simp [Tryz.f157]) (by simp [Tryz.f157]) s157_ok fun B => ?_
  simp [Tryz.f157, pS]
  refine loop_ruleL (X := Nat × List Ints) (CopI (cS cI) (whS whI) (okS okI) (plS plI) l B) (fun p => [(3, .own 16 0 p.2.length), (6, .d (.pl (l.map (cP cI)))), (7, .d (.int .i64 l.length)), (8, .d (.int .i64 p.1))]) (fun p => [(16, some (.row 26 1 (p.2.map (cS cI))))]) (fun p => l.length - p.1) ?_ ?_
  · refine (lead_slot 3 16 26 1 (by omega) (by omega) (by simp)).bind ?_
    rintro _ rfl
    exact Lead.of ⟨(0, []), .zero, rfl, rfl, Nat.le_refl _, by simp, by simp⟩
  rintro ⟨i, ys⟩ hs t m hI hh
  have hle := hI.le
  have hyl := hI.len
  simp only at hle
  by_cases hlt : i < l.length
  · have hwi := wr1 (i := i) (by omega)
    have hL : LenOk 24 (ys.length + 1) := ⟨by omega, by simp only [maxLen]; omega⟩
    simp [hlt, cP, pS, ]
    refine call_some (e_impl_copyInts l[i] (hb2 _ (List.getElem_mem hlt))) (by simp [pS]) (by simp) fun n hs' r hn hn' hp hr => ?_
    obtain ⟨y, rfl, hy1, hy2, hy3⟩ := hp
    simp at hn
    have hr' : ∀ g ∈ idsL (cS cI y), g < hs' := fun g hg => hr g (by rw [idsL_cS] at hg; exact hg)
    simp [cS, dSl, hL, hwi, ]
    exact back2 (i + 1, ys ++ [y]) (hI.snoc hlt hy1 hy2 (by omega) hn' hy3 hr') (by simp only; omega) rfl (by simp <;> omega) (by simp [cP, pS]) (by simp [cS, dSl])
  · have hall := hI.all (by omega)
    simp [hlt, ]
    intro γ hs' h1 hg
    obtain ⟨q1, q2⟩ := gam_at hg (k := 16) (T := 26) (sz := 1) (es := ys.map (cS cI)) (by simp)
    have q3 := gam_row hg (k := 16) (T := 26) (sz := 1) (es := ys.map (cS cI)) (by simp)
    clear hg
    have hp : hpLL (ys.map (cS cI)) = false := hpLL_mapS ys
    refine ⟨⟨γ 16, some (26, 1), ys⟩, by simp [dSl, List.take_of_length_le], by simpa [plS] using hall, ⟨by simp only [maxLen]; show ys.length ≤ _; omega, hI.ok⟩, good_row (fun g hg => (q1 g hg).1) (by simpa using q2) q3 ⟨hI.good.nd, hI.good.lo⟩ hI.good.wh, rfl⟩
theorem e_impl_copyRows (l : List (List Int)) (hb : l.length ≤ 4294967296) (hb2 : ∀ r ∈ l, r.length ≤ 4294967296) :
   VC Tryz.prog 157 [.d (pS (cP cI) l)] (fun n r => ∃ y : Sl Ints, r = .d (dSl (cS cI) y) ∧ plS (plS plI) y = l ∧ okS (okS okI) y ∧ Good (cS (cS cI) y) (whS (whS whI) y) n) :=
  (e_impl_copyRowsT l hb hb2).weak fun _ _ ⟨y, h1, h2, h3, h4, _⟩ => ⟨y, h1, h2, h3, h4⟩
theorem e_impl_copyRows0 : VC Tryz.prog 157 [.d (pS (cP cI) [])] (fun _ r => r = .d (.sl none none [])) := by
  refine VC.of E s157 (by kernel_rfl) Tryz.func157 (by rfl) (by kernel_rfl) (by simp [Tryz.f157]) (by simp [Tryz.f157]) s157_ok fun B => ?_
  simp [Tryz.f157, pS]
  refine loop_rule (X := Unit) (fun _ => True) (fun _ => [(3, .d (.sl none none [])), (6, .d (.pl [])), (7, .d (.int .i64 0)), (8, .d (.int .i64 0))]) (fun _ => []) (fun _ => 0) () trivial (by simp) (by simp) ?_
  intro i hs t m hi hh
  simp []
theorem e_impl_copyRelation (r : PReln) (hb : r.rows.length ≤ 4294967296) (hb2 : ∀ x ∈ r.rows, x.length ≤ 4294967296) :
   VC Tryz.prog 169 [.agg ((eReln r).map V.d)] (fun n v => ∃ y : Reln, v = .agg ((cReln y).map V.d) ∧ plReln y = r ∧ okReln y ∧ Good (cReln y) (whReln y) n) := by
  refine VC.of E s169 (by kernel_rfl) Tryz.func169 (by rfl) (by kernel_rfl) (by simp [Tryz.f169]) (by simp [Tryz.f169]) s169_ok fun B => ?_
  simp [Tryz.f169, s169_1, s169_1, eReln, cI, cP]
  refine call_some (e_impl_copyRows r.rows hb hb2) (by simp [pS]) (by simp) fun n1 hs1 r1 hn1 hm1 hp1 hr1 => ?_
  obtain ⟨y, rfl, p1, k1, G1⟩ := hp1
  simp at hn1
  simp [s169_1, ]
  exact ⟨⟨r.ar, y⟩, by simp [cReln, cI, cS], by rw [plReln]; simp only; rw [p1]; rfl, ⟨trivial, k1⟩, good_Reln G1 (by omega)⟩
end

end Go.Proofs.YtdnbigokdclclaaGreat

