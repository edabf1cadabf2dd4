/-
  Q3B1: a part of a proof of this seat: the value-level semantics of Go code without maps, its walk rules, the frame of a row, facts of types, schedules, walks, plain lemmas (Facts1 Sched1 H0 HP1 HP2 H1 HP3 P1 P1b P1c P1d P1e Q1 Q2 Q3 V1 P2 N1 N2 S3 N3 M1 P5 P5b M2 M3 M4 M5 M6 M7 M8 M9 M10 S6). It holds of every program and state that its hypotheses name.
-/
import Derived.Test.YtmgphabeodaokaaGreatQ3A4
import Derived.Test.YtmgphabeodaokaaGreatProg
import Derived.KernelRfl
set_option linter.unusedSimpArgs false
set_option linter.unusedVariables false
set_option linter.unnecessarySimpa false
namespace Go.Proofs.YtmgphabeodaokaaGreat
open Go.Vs Go.Proofs
theorem tsz3 : tsz Tryz.prog 3 = some 1 := by kernel_rfl
theorem tsz4 : tsz Tryz.prog 4 = some 1 := by kernel_rfl
theorem tsz5 : tsz Tryz.prog 5 = some 1 := by kernel_rfl
theorem tsz9 : tsz Tryz.prog 9 = some 1 := by kernel_rfl
theorem tsz22 : tsz Tryz.prog 22 = some 1 := by kernel_rfl
theorem tsz24 : tsz Tryz.prog 24 = some 1 := by kernel_rfl
theorem tsz26 : tsz Tryz.prog 26 = some 1 := by kernel_rfl
theorem tsz27 : tsz Tryz.prog 27 = some 1 := by kernel_rfl
theorem tsz28 : tsz Tryz.prog 28 = some 1 := by kernel_rfl
theorem tsz30 : tsz Tryz.prog 30 = some 3 := by kernel_rfl
theorem tsz31 : tsz Tryz.prog 31 = some 1 := by kernel_rfl
theorem tsz33 : tsz Tryz.prog 33 = some 2 := by kernel_rfl
theorem tsz35 : tsz Tryz.prog 35 = some 5 := by kernel_rfl
theorem tsz39 : tsz Tryz.prog 39 = some 3 := by kernel_rfl
theorem tsz46 : tsz Tryz.prog 46 = some 6 := by kernel_rfl
theorem tsz78 : tsz Tryz.prog 78 = some 2 := by kernel_rfl
theorem tsz128 : tsz Tryz.prog 128 = some 3 := by kernel_rfl
theorem tsz137 : tsz Tryz.prog 137 = some 3 := by kernel_rfl
theorem tagg3 : tagg Tryz.prog 3 = some false := by kernel_rfl
theorem tagg4 : tagg Tryz.prog 4 = some false := by kernel_rfl
theorem tagg5 : tagg Tryz.prog 5 = some false := by kernel_rfl
theorem tagg9 : tagg Tryz.prog 9 = some false := by kernel_rfl
theorem tagg22 : tagg Tryz.prog 22 = some false := by kernel_rfl
theorem tagg24 : tagg Tryz.prog 24 = some false := by kernel_rfl
theorem tagg26 : tagg Tryz.prog 26 = some true := by kernel_rfl
theorem tagg27 : tagg Tryz.prog 27 = some false := by kernel_rfl
theorem tagg28 : tagg Tryz.prog 28 = some false := by kernel_rfl
theorem tagg30 : tagg Tryz.prog 30 = some true := by kernel_rfl
theorem tagg31 : tagg Tryz.prog 31 = some false := by kernel_rfl
theorem tagg33 : tagg Tryz.prog 33 = some true := by kernel_rfl
theorem tagg35 : tagg Tryz.prog 35 = some true := by kernel_rfl
theorem tagg39 : tagg Tryz.prog 39 = some true := by kernel_rfl
theorem tagg46 : tagg Tryz.prog 46 = some true := by kernel_rfl
theorem tagg78 : tagg Tryz.prog 78 = some true := by kernel_rfl
theorem tagg128 : tagg Tryz.prog 128 = some true := by kernel_rfl
theorem tagg137 : tagg Tryz.prog 137 = some true := by kernel_rfl
theorem tzero3 : tzero Tryz.prog 3 = some [.int .i64 0] := by kernel_rfl
theorem tzero4 : tzero Tryz.prog 4 = some [.bool false] := by kernel_rfl
theorem tzero26 : tzero Tryz.prog 26 = some [.sl none none []] := by kernel_rfl
theorem tzero30 : tzero Tryz.prog 30 = some [.int .i64 0, .sl none none [], .sl none none []] := by kernel_rfl
theorem tzero33 : tzero Tryz.prog 33 = some [.int .i64 0, .sl none none []] := by kernel_rfl
theorem tzero35 : tzero Tryz.prog 35 = some [.str [], .int .i64 0, .sl none none [], .int .i64 0, .sl none none []] := by kernel_rfl
theorem tzero39 : tzero Tryz.prog 39 = some [.int .i64 0, .sl none none [], .sl none none []] := by kernel_rfl
theorem tzero46 : tzero Tryz.prog 46 = some [.int .i64 0, .sl none none [], .sl none none [], .int .i64 0, .sl none none [], .sl none none []] := by kernel_rfl
theorem tzero78 : tzero Tryz.prog 78 = some [.str [], .sl none none []] := by kernel_rfl
theorem tzero113 : tzero Tryz.prog 113 = some [.sl none none [], .int .i64 0, .int .i64 0] := by kernel_rfl
theorem tzero128 : tzero Tryz.prog 128 = some [.str [], .int .i64 0, .sl none none []] := by kernel_rfl
theorem tzero137 : tzero Tryz.prog 137 = some [.sl none none [], .int .i64 0, .sl none none []] := by kernel_rfl
theorem tslice22 : tslice Tryz.prog 22 = some (5, 1, 1) := by kernel_rfl
theorem telem22 : telem Tryz.prog 22 = some 5 := by kernel_rfl
theorem tslice24 : tslice Tryz.prog 24 = some (128, 3, 48) := by kernel_rfl
theorem telem24 : telem Tryz.prog 24 = some 128 := by kernel_rfl
theorem tslice27 : tslice Tryz.prog 27 = some (78, 2, 40) := by kernel_rfl
theorem telem27 : telem Tryz.prog 27 = some 78 := by kernel_rfl
theorem tslice28 : tslice Tryz.prog 28 = some (3, 1, 8) := by kernel_rfl
theorem telem28 : telem Tryz.prog 28 = some 3 := by kernel_rfl
theorem tslice31 : tslice Tryz.prog 31 = some (28, 1, 24) := by kernel_rfl
theorem telem31 : telem Tryz.prog 31 = some 28 := by kernel_rfl
theorem tslice59 : tslice Tryz.prog 59 = some (35, 5, 80) := by kernel_rfl
theorem telem59 : telem Tryz.prog 59 = some 35 := by kernel_rfl
theorem tslice63 : tslice Tryz.prog 63 = some (9, 1, 16) := by kernel_rfl
theorem telem63 : telem Tryz.prog 63 = some 9 := by kernel_rfl
theorem tslice89 : tslice Tryz.prog 89 = some (31, 1, 24) := by kernel_rfl
theorem telem89 : telem Tryz.prog 89 = some 31 := by kernel_rfl
theorem tslice148 : tslice Tryz.prog 148 = some (4, 1, 1) := by kernel_rfl
theorem telem148 : telem Tryz.prog 148 = some 4 := by kernel_rfl
theorem tstr9 : tstr Tryz.prog 9 = some true := by kernel_rfl
theorem tstr22 : tstr Tryz.prog 22 = some false := by kernel_rfl
theorem tstr24 : tstr Tryz.prog 24 = some false := by kernel_rfl
theorem tstr27 : tstr Tryz.prog 27 = some false := by kernel_rfl
theorem tstr28 : tstr Tryz.prog 28 = some false := by kernel_rfl
theorem tstr31 : tstr Tryz.prog 31 = some false := by kernel_rfl
theorem tstr59 : tstr Tryz.prog 59 = some false := by kernel_rfl
theorem tstr63 : tstr Tryz.prog 63 = some false := by kernel_rfl
theorem tstr148 : tstr Tryz.prog 148 = some false := by kernel_rfl
theorem tfld26 : tfld Tryz.prog 26 = true := by kernel_rfl
theorem tfld30 : tfld Tryz.prog 30 = true := by kernel_rfl
theorem tfld33 : tfld Tryz.prog 33 = true := by kernel_rfl
theorem tfld35 : tfld Tryz.prog 35 = true := by kernel_rfl
theorem tfld39 : tfld Tryz.prog 39 = true := by kernel_rfl
theorem tfld46 : tfld Tryz.prog 46 = true := by kernel_rfl
theorem tfld78 : tfld Tryz.prog 78 = true := by kernel_rfl
theorem tfld113 : tfld Tryz.prog 113 = true := by kernel_rfl
theorem tfld128 : tfld Tryz.prog 128 = true := by kernel_rfl
theorem tfld137 : tfld Tryz.prog 137 = true := by kernel_rfl
theorem foff26_0 : foff Tryz.prog 26 0 = some (0, 1) := by kernel_rfl
theorem foff30_0 : foff Tryz.prog 30 0 = some (0, 1) := by kernel_rfl
theorem foff30_1 : foff Tryz.prog 30 1 = some (1, 1) := by kernel_rfl
theorem foff30_2 : foff Tryz.prog 30 2 = some (2, 1) := by kernel_rfl
theorem foff33_0 : foff Tryz.prog 33 0 = some (0, 1) := by kernel_rfl
theorem foff33_1 : foff Tryz.prog 33 1 = some (1, 1) := by kernel_rfl
theorem foff35_0 : foff Tryz.prog 35 0 = some (0, 1) := by kernel_rfl
theorem foff35_1 : foff Tryz.prog 35 1 = some (1, 2) := by kernel_rfl
theorem foff35_2 : foff Tryz.prog 35 2 = some (3, 2) := by kernel_rfl
theorem foff39_0 : foff Tryz.prog 39 0 = some (0, 1) := by kernel_rfl
theorem foff39_1 : foff Tryz.prog 39 1 = some (1, 1) := by kernel_rfl
theorem foff39_2 : foff Tryz.prog 39 2 = some (2, 1) := by kernel_rfl
theorem foff46_0 : foff Tryz.prog 46 0 = some (0, 3) := by kernel_rfl
theorem foff46_1 : foff Tryz.prog 46 1 = some (3, 3) := by kernel_rfl
theorem foff78_0 : foff Tryz.prog 78 0 = some (0, 1) := by kernel_rfl
theorem foff78_1 : foff Tryz.prog 78 1 = some (1, 1) := by kernel_rfl
theorem foff113_0 : foff Tryz.prog 113 0 = some (0, 1) := by kernel_rfl
theorem foff113_1 : foff Tryz.prog 113 1 = some (1, 1) := by kernel_rfl
theorem foff113_2 : foff Tryz.prog 113 2 = some (2, 1) := by kernel_rfl
theorem foff128_0 : foff Tryz.prog 128 0 = some (0, 1) := by kernel_rfl
theorem foff128_1 : foff Tryz.prog 128 1 = some (1, 2) := by kernel_rfl
theorem foff137_0 : foff Tryz.prog 137 0 = some (0, 1) := by kernel_rfl
theorem foff137_1 : foff Tryz.prog 137 1 = some (1, 2) := by kernel_rfl
theorem fty33_1 : fty Tryz.prog 33 1 = some 31 := by kernel_rfl
attribute [simp] tsz3 tsz4 tsz5 tsz9 tsz22 tsz24 tsz26 tsz27 tsz28 tsz30 tsz31 tsz33 tsz35 tsz39 tsz46 tsz78 tsz128 tsz137 tagg3 tagg4 tagg5 tagg9 tagg22 tagg24 tagg26 tagg27 tagg28 tagg30 tagg31 tagg33 tagg35 tagg39 tagg46 tagg78 tagg128 tagg137 tzero3 tzero4 tzero26 tzero30 tzero33 tzero35 tzero39 tzero46 tzero78 tzero113 tzero128 tzero137 tslice22 telem22 tslice24 telem24 tslice27 telem27 tslice28 telem28 tslice31 telem31 tslice59 telem59 tslice63 telem63 tslice89 telem89 tslice148 telem148 tstr9 tstr22 tstr24 tstr27 tstr28 tstr31 tstr59 tstr63 tstr148 tfld26 tfld30 tfld33 tfld35 tfld39 tfld46 tfld78 tfld113 tfld128 tfld137 foff26_0 foff30_0 foff30_1 foff30_2 foff33_0 foff33_1 foff35_0 foff35_1 foff35_2 foff39_0 foff39_1 foff39_2 foff46_0 foff46_1 foff78_0 foff78_1 foff113_0 foff113_1 foff113_2 foff128_0 foff128_1 foff137_0 foff137_1 fty33_1
end Go.Proofs.YtmgphabeodaokaaGreat
namespace Go.Proofs.YtmgphabeodaokaaGreat
open Go.Vs Go.Proofs Go
def E : Md := ⟨fun f => [31, 32, 43, 59, 75, 76, 81, 82, 106, 114, 115, 116, 117, 120, 122, 123, 135, 137].contains f, false⟩
def EP : Md := ⟨E.e, true⟩
@[simp] theorem E_p : E.p = false := Eq.trans rfl rfl
@[simp] theorem EP_p : EP.p = true := Eq.trans rfl rfl
theorem E31 : E 31 = true := rfl
theorem E32 : E 32 = true := rfl
theorem E43 : E 43 = true := rfl
theorem E75 : E 75 = true := rfl
theorem E81 : E 81 = true := rfl
theorem E82 : E 82 = true := rfl
theorem E106 : E 106 = true := rfl
theorem E114 : E 114 = true := rfl
theorem E115 : E 115 = true := rfl
theorem E116 : E 116 = true := rfl
theorem E117 : E 117 = true := rfl
theorem E120 : E 120 = true := rfl
theorem E122 : E 122 = true := rfl
theorem E123 : E 123 = true := rfl
theorem E135 : E 135 = true := rfl
theorem E137 : E 137 = true := rfl
def s3 (_ : Nat) : Tr := .nil
theorem s3_ok : okCode E 99 s3 (Tryz.f3.body.getD .skip) = true := by kernel_rfl
def s4 (i : Nat) : Tr := if i = 6 then .seq [0, 1, 2, 3, 4, 5, 7, 8, 6, 9, 10, 11] .nil else .nil
def s6 (_ : Nat) : Tr := .nil
theorem s6_ok : okCode E 6 s6 (Tryz.f6.body.getD .skip) = true := by kernel_rfl
def s7 (i : Nat) : Tr := if i = 3 then .seq [3] (.both (.seq [0] (.both (.seq [1] (.both (.seq [2, 4, 5, 6, 7, 8, 9] .nil) (.seq [4, 5] (.both (.seq [2, 6, 7, 8, 9] .nil) (.seq [6] (.both (.seq [2, 7, 8, 9] .nil) (.seq [7, 2, 8, 9] .nil))))))) (.both (.seq [2] (.both (.seq [1, 4, 5, 6, 7, 8, 9] .nil) (.seq [4, 5] (.both (.seq [1, 6, 7, 8, 9] .nil) (.seq [6, 1, 7, 8, 9] .nil))))) (.seq [4, 5] (.both (.seq [1] (.both (.seq [2, 6, 7, 8, 9] .nil) (.seq [6] (.both (.seq [2, 7, 8, 9] .nil) (.seq [7, 2, 8, 9] .nil))))) (.both (.seq [2] (.both (.seq [1, 6, 7, 8, 9] .nil) (.seq [6, 1, 7, 8, 9] .nil))) (.seq [6, 1] (.both (.seq [2, 7, 8, 9] .nil) (.seq [7, 2, 8, 9] .nil))))))))) (.both (.seq [1] (.both (.seq [0] (.both (.seq [2, 4, 5, 6, 7, 8, 9] .nil) (.seq [4, 5] (.both (.seq [2, 6, 7, 8, 9] .nil) (.seq [6] (.both (.seq [2, 7, 8, 9] .nil) (.seq [7, 2, 8, 9] .nil))))))) (.both (.seq [2] (.both (.seq [0, 4, 5, 6, 7, 8, 9] .nil) (.seq [4, 0, 5, 6, 7, 8, 9] .nil))) (.seq [4, 0, 5] (.both (.seq [2, 6, 7, 8, 9] .nil) (.seq [6] (.both (.seq [2, 7, 8, 9] .nil) (.seq [7, 2, 8, 9] .nil)))))))) (.both (.seq [2] (.both (.seq [0] (.both (.seq [1, 4, 5, 6, 7, 8, 9] .nil) (.seq [4, 5] (.both (.seq [1, 6, 7, 8, 9] .nil) (.seq [6, 1, 7, 8, 9] .nil))))) (.both (.seq [1] (.both (.seq [0, 4, 5, 6, 7, 8, 9] .nil) (.seq [4, 0, 5, 6, 7, 8, 9] .nil))) (.seq [4, 0, 5] (.both (.seq [1, 6, 7, 8, 9] .nil) (.seq [6, 1, 7, 8, 9] .nil)))))) (.seq [4, 0, 5] (.both (.seq [1] (.both (.seq [2, 6, 7, 8, 9] .nil) (.seq [6] (.both (.seq [2, 7, 8, 9] .nil) (.seq [7, 2, 8, 9] .nil))))) (.both (.seq [2] (.both (.seq [1, 6, 7, 8, 9] .nil) (.seq [6, 1, 7, 8, 9] .nil))) (.seq [6, 1] (.both (.seq [2, 7, 8, 9] .nil) (.seq [7, 2, 8, 9] .nil))))))))) else .nil
theorem s7_3 : s7 3 = .seq [3] (.both (.seq [0] (.both (.seq [1] (.both (.seq [2, 4, 5, 6, 7, 8, 9] .nil) (.seq [4, 5] (.both (.seq [2, 6, 7, 8, 9] .nil) (.seq [6] (.both (.seq [2, 7, 8, 9] .nil) (.seq [7, 2, 8, 9] .nil))))))) (.both (.seq [2] (.both (.seq [1, 4, 5, 6, 7, 8, 9] .nil) (.seq [4, 5] (.both (.seq [1, 6, 7, 8, 9] .nil) (.seq [6, 1, 7, 8, 9] .nil))))) (.seq [4, 5] (.both (.seq [1] (.both (.seq [2, 6, 7, 8, 9] .nil) (.seq [6] (.both (.seq [2, 7, 8, 9] .nil) (.seq [7, 2, 8, 9] .nil))))) (.both (.seq [2] (.both (.seq [1, 6, 7, 8, 9] .nil) (.seq [6, 1, 7, 8, 9] .nil))) (.seq [6, 1] (.both (.seq [2, 7, 8, 9] .nil) (.seq [7, 2, 8, 9] .nil))))))))) (.both (.seq [1] (.both (.seq [0] (.both (.seq [2, 4, 5, 6, 7, 8, 9] .nil) (.seq [4, 5] (.both (.seq [2, 6, 7, 8, 9] .nil) (.seq [6] (.both (.seq [2, 7, 8, 9] .nil) (.seq [7, 2, 8, 9] .nil))))))) (.both (.seq [2] (.both (.seq [0, 4, 5, 6, 7, 8, 9] .nil) (.seq [4, 0, 5, 6, 7, 8, 9] .nil))) (.seq [4, 0, 5] (.both (.seq [2, 6, 7, 8, 9] .nil) (.seq [6] (.both (.seq [2, 7, 8, 9] .nil) (.seq [7, 2, 8, 9] .nil)))))))) (.both (.seq [2] (.both (.seq [0] (.both (.seq [1, 4, 5, 6, 7, 8, 9] .nil) (.seq [4, 5] (.both (.seq [1, 6, 7, 8, 9] .nil) (.seq [6, 1, 7, 8, 9] .nil))))) (.both (.seq [1] (.both (.seq [0, 4, 5, 6, 7, 8, 9] .nil) (.seq [4, 0, 5, 6, 7, 8, 9] .nil))) (.seq [4, 0, 5] (.both (.seq [1, 6, 7, 8, 9] .nil) (.seq [6, 1, 7, 8, 9] .nil)))))) (.seq [4, 0, 5] (.both (.seq [1] (.both (.seq [2, 6, 7, 8, 9] .nil) (.seq [6] (.both (.seq [2, 7, 8, 9] .nil) (.seq [7, 2, 8, 9] .nil))))) (.both (.seq [2] (.both (.seq [1, 6, 7, 8, 9] .nil) (.seq [6, 1, 7, 8, 9] .nil))) (.seq [6, 1] (.both (.seq [2, 7, 8, 9] .nil) (.seq [7, 2, 8, 9] .nil))))))))) := rfl
theorem s7_ok : okCode E 24 s7 (Tryz.f7.body.getD .skip) = true := by kernel_rfl
def s8 (i : Nat) : Tr := if i = 35 then .seq [0, 1, 2, 3, 4, 5, 6, 7, 8, 9, 10, 11, 12, 13, 14] .nil else if i = 44 then .seq [0, 1, 2, 4, 5, 6, 7, 3, 8] .nil else .nil
theorem s8_35 : s8 35 = .seq [0, 1, 2, 3, 4, 5, 6, 7, 8, 9, 10, 11, 12, 13, 14] .nil := rfl
theorem s8_44 : s8 44 = .seq [0, 1, 2, 4, 5, 6, 7, 3, 8] .nil := rfl
theorem s8_ok : okCode E 196 s8 (Tryz.f8.body.getD .skip) = true := by kernel_rfl
def s9 (i : Nat) : Tr := if i = 10 then .seq [0, 1, 2, 3, 4, 5, 6] (.both (.seq [7, 8, 9, 10, 11, 12, 13] .nil) (.seq [11, 7, 8, 9, 10, 12, 13] .nil)) else if i = 12 then .seq [0, 1, 2, 3, 4, 5, 6, 7, 8, 9, 10, 11] .nil else if i = 16 then .seq [0, 1, 2, 3, 4, 5, 6, 7, 8] .nil else if i = 19 then .seq [0, 1, 2, 3, 4, 5, 6, 7] .nil else if i = 30 then .seq [0, 1, 2, 3, 4, 5, 6, 7, 8, 9, 10] .nil else .nil
theorem s9_10 : s9 10 = .seq [0, 1, 2, 3, 4, 5, 6] (.both (.seq [7, 8, 9, 10, 11, 12, 13] .nil) (.seq [11, 7, 8, 9, 10, 12, 13] .nil)) := rfl
theorem s9_12 : s9 12 = .seq [0, 1, 2, 3, 4, 5, 6, 7, 8, 9, 10, 11] .nil := rfl
theorem s9_16 : s9 16 = .seq [0, 1, 2, 3, 4, 5, 6, 7, 8] .nil := rfl
theorem s9_19 : s9 19 = .seq [0, 1, 2, 3, 4, 5, 6, 7] .nil := rfl
theorem s9_30 : s9 30 = .seq [0, 1, 2, 3, 4, 5, 6, 7, 8, 9, 10] .nil := rfl
theorem s9_ok : okCode E 194 s9 (Tryz.f9.body.getD .skip) = true := by kernel_rfl
def s10 (_ : Nat) : Tr := .nil
theorem s10_ok : okCode E 27 s10 (Tryz.f10.body.getD .skip) = true := by kernel_rfl
def s11 (i : Nat) : Tr := if i = 6 then .seq [0, 1, 2, 3, 4, 5, 6, 7, 8, 9] .nil else .nil
theorem s11_6 : s11 6 = .seq [0, 1, 2, 3, 4, 5, 6, 7, 8, 9] .nil := rfl
theorem s11_ok : okCode E 51 s11 (Tryz.f11.body.getD .skip) = true := by kernel_rfl
def s12 (i : Nat) : Tr := if i = 3 then .seq [0, 1, 3, 4, 6, 7, 10, 11, 13, 14] (.both (.seq [2] (.both (.app 5 [25, 31, 35, 38] (.both (.app 8 [25, 35, 38] (.both (.seq [9] (.both (.app 12 [25, 38] (.both (.app 15 [25] (.both (.seq [16, 17, 18, 19, 20, 21, 22] .nil) (.seq [20, 16, 17, 18, 19, 21, 22] .nil))) (.seq [20] (.app 15 [25] (.seq [16, 17, 18, 19, 21, 22] .nil))))) (.seq [20] (.app 12 [25, 38] (.app 15 [25] (.seq [16, 17, 18, 19, 21, 22] .nil)))))) (.seq [20, 9] (.app 12 [25, 38] (.app 15 [25] (.seq [16, 17, 18, 19, 21, 22] .nil)))))) (.both (.seq [9] (.both (.app 8 [25, 35, 38] (.both (.app 12 [25, 38] (.both (.app 15 [25] (.both (.seq [16, 17, 18, 19, 20, 21, 22] .nil) (.seq [20, 16, 17, 18, 19, 21, 22] .nil))) (.seq [20] (.app 15 [25] (.seq [16, 17, 18, 19, 21, 22] .nil))))) (.seq [20] (.app 12 [25, 38] (.app 15 [25] (.seq [16, 17, 18, 19, 21, 22] .nil)))))) (.seq [20] (.app 8 [25, 35, 38] (.app 12 [25, 38] (.app 15 [25] (.seq [16, 17, 18, 19, 21, 22] .nil))))))) (.seq [20] (.both (.app 8 [25, 35, 38] (.seq [9] (.app 12 [25, 38] (.app 15 [25] (.seq [16, 17, 18, 19, 21, 22] .nil))))) (.seq [9] (.app 8 [25, 35, 38] (.app 12 [25, 38] (.app 15 [25] (.seq [16, 17, 18, 19, 21, 22] .nil)))))))))) (.both (.seq [9] (.both (.app 5 [25, 31, 35, 38] (.both (.app 8 [25, 35, 38] (.both (.app 12 [25, 38] (.both (.app 15 [25] (.both (.seq [16, 17, 18, 19, 20, 21, 22] .nil) (.seq [20, 16, 17, 18, 19, 21, 22] .nil))) (.seq [20] (.app 15 [25] (.seq [16, 17, 18, 19, 21, 22] .nil))))) (.seq [20] (.app 12 [25, 38] (.app 15 [25] (.seq [16, 17, 18, 19, 21, 22] .nil)))))) (.seq [20] (.app 8 [25, 35, 38] (.app 12 [25, 38] (.app 15 [25] (.seq [16, 17, 18, 19, 21, 22] .nil))))))) (.seq [20] (.app 5 [25, 31, 35, 38] (.app 8 [25, 35, 38] (.app 12 [25, 38] (.app 15 [25] (.seq [16, 17, 18, 19, 21, 22] .nil)))))))) (.seq [20] (.both (.app 5 [25, 31, 35, 38] (.both (.app 8 [25, 35, 38] (.seq [9] (.app 12 [25, 38] (.app 15 [25] (.seq [16, 17, 18, 19, 21, 22] .nil))))) (.seq [9] (.app 8 [25, 35, 38] (.app 12 [25, 38] (.app 15 [25] (.seq [16, 17, 18, 19, 21, 22] .nil))))))) (.seq [9] (.app 5 [25, 31, 35, 38] (.app 8 [25, 35, 38] (.app 12 [25, 38] (.app 15 [25] (.seq [16, 17, 18, 19, 21, 22] .nil))))))))))) (.both (.seq [9] (.both (.seq [2] (.both (.app 5 [25, 31, 35, 38] (.both (.app 8 [25, 35, 38] (.both (.app 12 [25, 38] (.both (.app 15 [25] (.both (.seq [16, 17, 18, 19, 20, 21, 22] .nil) (.seq [20, 16, 17, 18, 19, 21, 22] .nil))) (.seq [20] (.app 15 [25] (.seq [16, 17, 18, 19, 21, 22] .nil))))) (.seq [20] (.app 12 [25, 38] (.app 15 [25] (.seq [16, 17, 18, 19, 21, 22] .nil)))))) (.seq [20] (.app 8 [25, 35, 38] (.app 12 [25, 38] (.app 15 [25] (.seq [16, 17, 18, 19, 21, 22] .nil))))))) (.seq [20] (.app 5 [25, 31, 35, 38] (.app 8 [25, 35, 38] (.app 12 [25, 38] (.app 15 [25] (.seq [16, 17, 18, 19, 21, 22] .nil)))))))) (.seq [20, 2] (.app 5 [25, 31, 35, 38] (.app 8 [25, 35, 38] (.app 12 [25, 38] (.app 15 [25] (.seq [16, 17, 18, 19, 21, 22] .nil)))))))) (.seq [20] (.both (.seq [2] (.both (.app 5 [25, 31, 35, 38] (.both (.app 8 [25, 35, 38] (.seq [9] (.app 12 [25, 38] (.app 15 [25] (.seq [16, 17, 18, 19, 21, 22] .nil))))) (.seq [9] (.app 8 [25, 35, 38] (.app 12 [25, 38] (.app 15 [25] (.seq [16, 17, 18, 19, 21, 22] .nil))))))) (.seq [9] (.app 5 [25, 31, 35, 38] (.app 8 [25, 35, 38] (.app 12 [25, 38] (.app 15 [25] (.seq [16, 17, 18, 19, 21, 22] .nil)))))))) (.seq [9, 2] (.app 5 [25, 31, 35, 38] (.app 8 [25, 35, 38] (.app 12 [25, 38] (.app 15 [25] (.seq [16, 17, 18, 19, 21, 22] .nil)))))))))) else .nil
theorem s12_3 : s12 3 = .seq [0, 1, 3, 4, 6, 7, 10, 11, 13, 14] (.both (.seq [2] (.both (.app 5 [25, 31, 35, 38] (.both (.app 8 [25, 35, 38] (.both (.seq [9] (.both (.app 12 [25, 38] (.both (.app 15 [25] (.both (.seq [16, 17, 18, 19, 20, 21, 22] .nil) (.seq [20, 16, 17, 18, 19, 21, 22] .nil))) (.seq [20] (.app 15 [25] (.seq [16, 17, 18, 19, 21, 22] .nil))))) (.seq [20] (.app 12 [25, 38] (.app 15 [25] (.seq [16, 17, 18, 19, 21, 22] .nil)))))) (.seq [20, 9] (.app 12 [25, 38] (.app 15 [25] (.seq [16, 17, 18, 19, 21, 22] .nil)))))) (.both (.seq [9] (.both (.app 8 [25, 35, 38] (.both (.app 12 [25, 38] (.both (.app 15 [25] (.both (.seq [16, 17, 18, 19, 20, 21, 22] .nil) (.seq [20, 16, 17, 18, 19, 21, 22] .nil))) (.seq [20] (.app 15 [25] (.seq [16, 17, 18, 19, 21, 22] .nil))))) (.seq [20] (.app 12 [25, 38] (.app 15 [25] (.seq [16, 17, 18, 19, 21, 22] .nil)))))) (.seq [20] (.app 8 [25, 35, 38] (.app 12 [25, 38] (.app 15 [25] (.seq [16, 17, 18, 19, 21, 22] .nil))))))) (.seq [20] (.both (.app 8 [25, 35, 38] (.seq [9] (.app 12 [25, 38] (.app 15 [25] (.seq [16, 17, 18, 19, 21, 22] .nil))))) (.seq [9] (.app 8 [25, 35, 38] (.app 12 [25, 38] (.app 15 [25] (.seq [16, 17, 18, 19, 21, 22] .nil)))))))))) (.both (.seq [9] (.both (.app 5 [25, 31, 35, 38] (.both (.app 8 [25, 35, 38] (.both (.app 12 [25, 38] (.both (.app 15 [25] (.both (.seq [16, 17, 18, 19, 20, 21, 22] .nil) (.seq [20, 16, 17, 18, 19, 21, 22] .nil))) (.seq [20] (.app 15 [25] (.seq [16, 17, 18, 19, 21, 22] .nil))))) (.seq [20] (.app 12 [25, 38] (.app 15 [25] (.seq [16, 17, 18, 19, 21, 22] .nil)))))) (.seq [20] (.app 8 [25, 35, 38] (.app 12 [25, 38] (.app 15 [25] (.seq [16, 17, 18, 19, 21, 22] .nil))))))) (.seq [20] (.app 5 [25, 31, 35, 38] (.app 8 [25, 35, 38] (.app 12 [25, 38] (.app 15 [25] (.seq [16, 17, 18, 19, 21, 22] .nil)))))))) (.seq [20] (.both (.app 5 [25, 31, 35, 38] (.both (.app 8 [25, 35, 38] (.seq [9] (.app 12 [25, 38] (.app 15 [25] (.seq [16, 17, 18, 19, 21, 22] .nil))))) (.seq [9] (.app 8 [25, 35, 38] (.app 12 [25, 38] (.app 15 [25] (.seq [16, 17, 18, 19, 21, 22] .nil))))))) (.seq [9] (.app 5 [25, 31, 35, 38] (.app 8 [25, 35, 38] (.app 12 [25, 38] (.app 15 [25] (.seq [16, 17, 18, 19, 21, 22] .nil))))))))))) (.both (.seq [9] (.both (.seq [2] (.both (.app 5 [25, 31, 35, 38] (.both (.app 8 [25, 35, 38] (.both (.app 12 [25, 38] (.both (.app 15 [25] (.both (.seq [16, 17, 18, 19, 20, 21, 22] .nil) (.seq [20, 16, 17, 18, 19, 21, 22] .nil))) (.seq [20] (.app 15 [25] (.seq [16, 17, 18, 19, 21, 22] .nil))))) (.seq [20] (.app 12 [25, 38] (.app 15 [25] (.seq [16, 17, 18, 19, 21, 22] .nil)))))) (.seq [20] (.app 8 [25, 35, 38] (.app 12 [25, 38] (.app 15 [25] (.seq [16, 17, 18, 19, 21, 22] .nil))))))) (.seq [20] (.app 5 [25, 31, 35, 38] (.app 8 [25, 35, 38] (.app 12 [25, 38] (.app 15 [25] (.seq [16, 17, 18, 19, 21, 22] .nil)))))))) (.seq [20, 2] (.app 5 [25, 31, 35, 38] (.app 8 [25, 35, 38] (.app 12 [25, 38] (.app 15 [25] (.seq [16, 17, 18, 19, 21, 22] .nil)))))))) (.seq [20] (.both (.seq [2] (.both (.app 5 [25, 31, 35, 38] (.both (.app 8 [25, 35, 38] (.seq [9] (.app 12 [25, 38] (.app 15 [25] (.seq [16, 17, 18, 19, 21, 22] .nil))))) (.seq [9] (.app 8 [25, 35, 38] (.app 12 [25, 38] (.app 15 [25] (.seq [16, 17, 18, 19, 21, 22] .nil))))))) (.seq [9] (.app 5 [25, 31, 35, 38] (.app 8 [25, 35, 38] (.app 12 [25, 38] (.app 15 [25] (.seq [16, 17, 18, 19, 21, 22] .nil)))))))) (.seq [9, 2] (.app 5 [25, 31, 35, 38] (.app 8 [25, 35, 38] (.app 12 [25, 38] (.app 15 [25] (.seq [16, 17, 18, 19, 21, 22] .nil)))))))))) := rfl
theorem s12_ok : okCode E 46 s12 (Tryz.f12.body.getD .skip) = true := by kernel_rfl
def s18 (_ : Nat) : Tr := .nil
theorem s18_ok : okCode E 61 s18 (Tryz.f18.body.getD .skip) = true := by kernel_rfl
def s19 (i : Nat) : Tr := if i = 8 then .seq [0, 2, 1, 3, 4, 5] .nil else .nil
theorem s19_8 : s19 8 = .seq [0, 2, 1, 3, 4, 5] .nil := rfl
theorem s19_ok : okCode E 40 s19 (Tryz.f19.body.getD .skip) = true := by kernel_rfl
def s22 (i : Nat) : Tr := if i = 6 then .seq [0, 1, 2, 3, 4, 5, 6, 7, 8, 9, 10, 11] .nil else .nil
theorem s22_6 : s22 6 = .seq [0, 1, 2, 3, 4, 5, 6, 7, 8, 9, 10, 11] .nil := rfl
theorem s22_ok : okCode E 39 s22 (Tryz.f22.body.getD .skip) = true := by kernel_rfl
def s30 (_ : Nat) : Tr := .nil
theorem s30_ok : okCode E 32 s30 (Tryz.f30.body.getD .skip) = true := by kernel_rfl
def s31 (i : Nat) : Tr := if i = 2 then .seq [2, 3] (.both (.seq [0] (.both (.seq [1, 4, 5, 6, 7] .nil) (.seq [4] (.both (.seq [1, 5, 6, 7] .nil) (.seq [5, 1, 6, 7] .nil))))) (.both (.seq [1] (.both (.seq [0, 4, 5, 6, 7] .nil) (.seq [4, 0, 5, 6, 7] .nil))) (.seq [4, 0] (.both (.seq [1, 5, 6, 7] .nil) (.seq [5, 1, 6, 7] .nil))))) else .nil
theorem s31_2 : s31 2 = .seq [2, 3] (.both (.seq [0] (.both (.seq [1, 4, 5, 6, 7] .nil) (.seq [4] (.both (.seq [1, 5, 6, 7] .nil) (.seq [5, 1, 6, 7] .nil))))) (.both (.seq [1] (.both (.seq [0, 4, 5, 6, 7] .nil) (.seq [4, 0, 5, 6, 7] .nil))) (.seq [4, 0] (.both (.seq [1, 5, 6, 7] .nil) (.seq [5, 1, 6, 7] .nil))))) := rfl
theorem s31_ok : okCode E 17 s31 (Tryz.f31.body.getD .skip) = true := by kernel_rfl
def s32 (_ : Nat) : Tr := .nil
theorem s32_ok : okCode E 37 s32 (Tryz.f32.body.getD .skip) = true := by kernel_rfl
def s33 (_ : Nat) : Tr := .nil
theorem s33_ok : okCode E 56 s33 (Tryz.f33.body.getD .skip) = true := by kernel_rfl
def s34 (_ : Nat) : Tr := .nil
theorem s34_ok : okCode E 42 s34 (Tryz.f34.body.getD .skip) = true := by kernel_rfl
def s35 (_ : Nat) : Tr := .nil
theorem s35_ok : okCode E 15 s35 (Tryz.f35.body.getD .skip) = true := by kernel_rfl
def s36 (i : Nat) : Tr := if i = 9 then .seq [0, 1, 2, 3, 4, 5, 6, 7, 8, 9] .nil else if i = 15 then .seq [0, 1, 2, 3, 4, 5, 6, 7, 8, 9] .nil else .nil
theorem s36_9 : s36 9 = .seq [0, 1, 2, 3, 4, 5, 6, 7, 8, 9] .nil := rfl
theorem s36_15 : s36 15 = .seq [0, 1, 2, 3, 4, 5, 6, 7, 8, 9] .nil := rfl
theorem s36_ok : okCode E 82 s36 (Tryz.f36.body.getD .skip) = true := by kernel_rfl
def s37 (i : Nat) : Tr := if i = 16 then .seq [0, 1, 2, 3, 4, 5, 6, 7, 8, 9, 10, 11, 12] .nil else .nil
theorem s37_16 : s37 16 = .seq [0, 1, 2, 3, 4, 5, 6, 7, 8, 9, 10, 11, 12] .nil := rfl
theorem s37_ok : okCode E 98 s37 (Tryz.f37.body.getD .skip) = true := by kernel_rfl
def s38 (i : Nat) : Tr := if i = 11 then .seq [0, 1, 2, 3, 4, 5, 9, 10, 11, 12, 6, 7, 8, 13, 14, 15] .nil else .nil
theorem s38_11 : s38 11 = .seq [0, 1, 2, 3, 4, 5, 9, 10, 11, 12, 6, 7, 8, 13, 14, 15] .nil := rfl
theorem s38_ok : okCode E 62 s38 (Tryz.f38.body.getD .skip) = true := by kernel_rfl
def s39 (i : Nat) : Tr := if i = 9 then .seq [0, 1, 2, 4, 7, 8, 9] (.both (.seq [3, 5, 6, 10, 11] .nil) (.seq [5, 3, 6, 10, 11] .nil)) else .nil
theorem s39_9 : s39 9 = .seq [0, 1, 2, 4, 7, 8, 9] (.both (.seq [3, 5, 6, 10, 11] .nil) (.seq [5, 3, 6, 10, 11] .nil)) := rfl
theorem s39_ok : okCode E 56 s39 (Tryz.f39.body.getD .skip) = true := by kernel_rfl
def s40 (_ : Nat) : Tr := .nil
theorem s40_ok : okCode E 17 s40 (Tryz.f40.body.getD .skip) = true := by kernel_rfl
def s41 (i : Nat) : Tr := if i = 7 then .seq [0, 1, 2, 3, 4, 5, 6, 7, 8, 9, 10, 11, 12, 13, 14, 15, 16, 17] .nil else .nil
theorem s41_7 : s41 7 = .seq [0, 1, 2, 3, 4, 5, 6, 7, 8, 9, 10, 11, 12, 13, 14, 15, 16, 17] .nil := rfl
theorem s41_ok : okCode E 67 s41 (Tryz.f41.body.getD .skip) = true := by kernel_rfl
def s42 (_ : Nat) : Tr := .nil
theorem s42_ok : okCode E 4 s42 (Tryz.f42.body.getD .skip) = true := by kernel_rfl
def s43 (i : Nat) : Tr := if i = 3 then .seq [0, 2, 3, 4, 5, 6, 7, 9, 13, 14, 15, 16, 17, 18, 1] (.app 8 [43] (.seq [10, 11] (.app 12 [43] (.seq [19, 20, 21, 22] .nil)))) else if i = 4 then .seq [0, 1, 2, 3, 4, 5, 6, 8, 11, 12, 13, 14, 15, 16] (.both (.seq [7, 9] (.app 10 [63] (.seq [17, 18, 19, 20] .nil))) (.seq [9, 7] (.app 10 [63] (.seq [17, 18, 19, 20] .nil)))) else .nil
theorem s43_3 : s43 3 = .seq [0, 2, 3, 4, 5, 6, 7, 9, 13, 14, 15, 16, 17, 18, 1] (.app 8 [43] (.seq [10, 11] (.app 12 [43] (.seq [19, 20, 21, 22] .nil)))) := rfl
theorem s43_4 : s43 4 = .seq [0, 1, 2, 3, 4, 5, 6, 8, 11, 12, 13, 14, 15, 16] (.both (.seq [7, 9] (.app 10 [63] (.seq [17, 18, 19, 20] .nil))) (.seq [9, 7] (.app 10 [63] (.seq [17, 18, 19, 20] .nil)))) := rfl
theorem s43_ok : okCode E 70 s43 (Tryz.f43.body.getD .skip) = true := by kernel_rfl
def s44 (_ : Nat) : Tr := .nil
theorem s44_ok : okCode E 24 s44 (Tryz.f44.body.getD .skip) = true := by kernel_rfl
def s45 (i : Nat) : Tr := if i = 6 then .seq [0, 1, 2, 3, 4, 5, 6, 7, 8, 9, 10] .nil else .nil
theorem s45_6 : s45 6 = .seq [0, 1, 2, 3, 4, 5, 6, 7, 8, 9, 10] .nil := rfl
theorem s45_ok : okCode E 37 s45 (Tryz.f45.body.getD .skip) = true := by kernel_rfl
def s46 (_ : Nat) : Tr := .nil
theorem s46_ok : okCode E 60 s46 (Tryz.f46.body.getD .skip) = true := by kernel_rfl
def s47 (i : Nat) : Tr := if i = 4 then .seq [0, 1, 2, 3, 4, 5, 6] (.both (.seq [7, 8, 9, 10, 11, 12, 13] .nil) (.seq [11, 7, 8, 9, 10, 12, 13] .nil)) else if i = 5 then .seq [0, 1, 2, 3, 4, 5, 6, 7, 8, 9, 10, 11, 12, 13] .nil else .nil
theorem s47_4 : s47 4 = .seq [0, 1, 2, 3, 4, 5, 6] (.both (.seq [7, 8, 9, 10, 11, 12, 13] .nil) (.seq [11, 7, 8, 9, 10, 12, 13] .nil)) := rfl
theorem s47_5 : s47 5 = .seq [0, 1, 2, 3, 4, 5, 6, 7, 8, 9, 10, 11, 12, 13] .nil := rfl
theorem s47_ok : okCode E 46 s47 (Tryz.f47.body.getD .skip) = true := by kernel_rfl
def s48 (_ : Nat) : Tr := .nil
theorem s48_ok : okCode E 15 s48 (Tryz.f48.body.getD .skip) = true := by kernel_rfl
def s49 (_ : Nat) : Tr := .nil
theorem s49_ok : okCode E 34 s49 (Tryz.f49.body.getD .skip) = true := by kernel_rfl
def s50 (_ : Nat) : Tr := .nil
theorem s50_ok : okCode E 31 s50 (Tryz.f50.body.getD .skip) = true := by kernel_rfl
def s51 (i : Nat) : Tr := if i = 6 then .seq [0, 1, 2, 3, 4, 5, 6, 7, 8, 9, 10, 11] .nil else .nil
theorem s51_6 : s51 6 = .seq [0, 1, 2, 3, 4, 5, 6, 7, 8, 9, 10, 11] .nil := rfl
theorem s51_ok : okCode E 34 s51 (Tryz.f51.body.getD .skip) = true := by kernel_rfl
def s52 (i : Nat) : Tr := if i = 14 then .seq [0, 1, 2, 3, 4, 5, 6, 7, 8, 9, 10, 11, 12, 13, 14, 15, 16, 17, 18, 19, 20, 21, 22] .nil else if i = 17 then .seq [0, 1, 2, 3, 4, 5, 6, 7, 8, 9, 10, 11, 12, 13, 14, 15, 16, 17, 18, 19, 20] .nil else .nil
theorem s52_14 : s52 14 = .seq [0, 1, 2, 3, 4, 5, 6, 7, 8, 9, 10, 11, 12, 13, 14, 15, 16, 17, 18, 19, 20, 21, 22] .nil := rfl
theorem s52_17 : s52 17 = .seq [0, 1, 2, 3, 4, 5, 6, 7, 8, 9, 10, 11, 12, 13, 14, 15, 16, 17, 18, 19, 20] .nil := rfl
theorem s52_ok : okCode E 134 s52 (Tryz.f52.body.getD .skip) = true := by kernel_rfl
def s53 (_ : Nat) : Tr := .nil
theorem s53_ok : okCode E 25 s53 (Tryz.f53.body.getD .skip) = true := by kernel_rfl
def s54 (i : Nat) : Tr := if i = 8 then .seq [0, 1, 2, 3, 4, 5, 6, 7, 8, 9, 10] .nil else if i = 9 then .seq [0, 1, 2, 3, 4, 5, 6, 7, 8, 9, 10, 11, 12] .nil else if i = 15 then .seq [0, 1, 2, 3, 4, 5, 6, 7, 8, 9, 10] .nil else if i = 16 then .seq [0, 1, 2, 3, 4, 5, 6, 7, 8, 9] .nil else .nil
theorem s54_8 : s54 8 = .seq [0, 1, 2, 3, 4, 5, 6, 7, 8, 9, 10] .nil := rfl
theorem s54_9 : s54 9 = .seq [0, 1, 2, 3, 4, 5, 6, 7, 8, 9, 10, 11, 12] .nil := rfl
theorem s54_15 : s54 15 = .seq [0, 1, 2, 3, 4, 5, 6, 7, 8, 9, 10] .nil := rfl
theorem s54_16 : s54 16 = .seq [0, 1, 2, 3, 4, 5, 6, 7, 8, 9] .nil := rfl
theorem s54_ok : okCode E 94 s54 (Tryz.f54.body.getD .skip) = true := by kernel_rfl
def s55 (i : Nat) : Tr := if i = 4 then .seq [0, 1, 2, 3, 4, 5, 6, 7, 8] .nil else if i = 6 then .seq [0, 1, 2, 3, 4, 5, 6, 7, 8] .nil else .nil
theorem s55_4 : s55 4 = .seq [0, 1, 2, 3, 4, 5, 6, 7, 8] .nil := rfl
theorem s55_6 : s55 6 = .seq [0, 1, 2, 3, 4, 5, 6, 7, 8] .nil := rfl
theorem s55_ok : okCode E 46 s55 (Tryz.f55.body.getD .skip) = true := by kernel_rfl
def s56 (_ : Nat) : Tr := .nil
theorem s56_ok : okCode E 57 s56 (Tryz.f56.body.getD .skip) = true := by kernel_rfl
def s57 (i : Nat) : Tr := if i = 5 then .seq [0, 1, 2, 3, 4, 5, 6, 7, 8, 9, 10] .nil else .nil
theorem s57_5 : s57 5 = .seq [0, 1, 2, 3, 4, 5, 6, 7, 8, 9, 10] .nil := rfl
theorem s57_ok : okCode E 25 s57 (Tryz.f57.body.getD .skip) = true := by kernel_rfl
def s58 (_ : Nat) : Tr := .nil
theorem s58_ok : okCode E 42 s58 (Tryz.f58.body.getD .skip) = true := by kernel_rfl
def s60 (i : Nat) : Tr := if i = 1 then .seq [0, 1, 2, 3] (.both (.seq [4, 5, 6, 7] .nil) (.seq [6, 4, 5, 7] .nil)) else if i = 5 then .seq [0, 1, 2, 3, 4, 5, 6, 7, 8, 9, 10, 11] .nil else .nil
theorem s60_1 : s60 1 = .seq [0, 1, 2, 3] (.both (.seq [4, 5, 6, 7] .nil) (.seq [6, 4, 5, 7] .nil)) := rfl
theorem s60_5 : s60 5 = .seq [0, 1, 2, 3, 4, 5, 6, 7, 8, 9, 10, 11] .nil := rfl
theorem s60_ok : okCode E 32 s60 (Tryz.f60.body.getD .skip) = true := by kernel_rfl
def s65 (i : Nat) : Tr := if i = 6 then .seq [0, 1, 2, 3, 4, 5, 6, 7, 8, 9, 10, 11, 12, 13] .nil else .nil
theorem s65_6 : s65 6 = .seq [0, 1, 2, 3, 4, 5, 6, 7, 8, 9, 10, 11, 12, 13] .nil := rfl
theorem s65_ok : okCode E 35 s65 (Tryz.f65.body.getD .skip) = true := by kernel_rfl
def s66 (i : Nat) : Tr := if i = 7 then .seq [0, 1, 2, 3, 4, 5, 6, 7, 8, 9, 10, 11] .nil else if i = 9 then .seq [0, 1, 3, 4, 5, 6, 7, 2] (.app 8 [48] (.seq [9, 10, 11, 12] .nil)) else .nil
theorem s66_7 : s66 7 = .seq [0, 1, 2, 3, 4, 5, 6, 7, 8, 9, 10, 11] .nil := rfl
theorem s66_9 : s66 9 = .seq [0, 1, 3, 4, 5, 6, 7, 2] (.app 8 [48] (.seq [9, 10, 11, 12] .nil)) := rfl
theorem s66_ok : okCode E 61 s66 (Tryz.f66.body.getD .skip) = true := by kernel_rfl
def s67 (i : Nat) : Tr := if i = 3 then .seq [0, 1, 3, 4, 6, 7] (.both (.seq [2] (.both (.app 5 [25, 31] (.both (.app 8 [25] (.both (.seq [9, 10, 11, 12, 13, 14, 15] .nil) (.seq [13, 9, 10, 11, 12, 14, 15] .nil))) (.seq [13] (.app 8 [25] (.seq [9, 10, 11, 12, 14, 15] .nil))))) (.seq [13] (.app 5 [25, 31] (.app 8 [25] (.seq [9, 10, 11, 12, 14, 15] .nil)))))) (.seq [13, 2] (.app 5 [25, 31] (.app 8 [25] (.seq [9, 10, 11, 12, 14, 15] .nil))))) else .nil
theorem s67_3 : s67 3 = .seq [0, 1, 3, 4, 6, 7] (.both (.seq [2] (.both (.app 5 [25, 31] (.both (.app 8 [25] (.both (.seq [9, 10, 11, 12, 13, 14, 15] .nil) (.seq [13, 9, 10, 11, 12, 14, 15] .nil))) (.seq [13] (.app 8 [25] (.seq [9, 10, 11, 12, 14, 15] .nil))))) (.seq [13] (.app 5 [25, 31] (.app 8 [25] (.seq [9, 10, 11, 12, 14, 15] .nil)))))) (.seq [13, 2] (.app 5 [25, 31] (.app 8 [25] (.seq [9, 10, 11, 12, 14, 15] .nil))))) := rfl
theorem s67_ok : okCode E 39 s67 (Tryz.f67.body.getD .skip) = true := by kernel_rfl
def s68 (_ : Nat) : Tr := .nil
theorem s68_ok : okCode E 73 s68 (Tryz.f68.body.getD .skip) = true := by kernel_rfl
def s69 (i : Nat) : Tr := if i = 25 then .seq [0, 1, 2] (.both (.seq [3, 4, 5, 6] .nil) (.seq [5, 3, 4, 6] .nil)) else .nil
theorem s69_25 : s69 25 = .seq [0, 1, 2] (.both (.seq [3, 4, 5, 6] .nil) (.seq [5, 3, 4, 6] .nil)) := rfl
theorem s69_ok : okCode E 86 s69 (Tryz.f69.body.getD .skip) = true := by kernel_rfl
def s70 (i : Nat) : Tr := if i = 3 then .seq [0, 1, 2, 3] (.both (.seq [4, 5, 6, 7] .nil) (.seq [6, 4, 5, 7] .nil)) else .nil
theorem s70_3 : s70 3 = .seq [0, 1, 2, 3] (.both (.seq [4, 5, 6, 7] .nil) (.seq [6, 4, 5, 7] .nil)) := rfl
theorem s70_ok : okCode E 27 s70 (Tryz.f70.body.getD .skip) = true := by kernel_rfl
def s71 (i : Nat) : Tr := if i = 7 then .seq [0, 1, 3, 4, 5, 6, 7, 2, 8] .nil else .nil
theorem s71_7 : s71 7 = .seq [0, 1, 3, 4, 5, 6, 7, 2, 8] .nil := rfl
theorem s71_ok : okCode E 49 s71 (Tryz.f71.body.getD .skip) = true := by kernel_rfl
def s75 (i : Nat) : Tr := if i = 5 then .seq [0] (.both (.seq [1] (.both (.seq [2, 3, 4] .nil) (.seq [3, 2, 4] .nil))) (.seq [2, 1, 3, 4] .nil)) else if i = 7 then .seq [1] (.both (.seq [0, 2, 3, 4] .nil) (.seq [2, 0, 3, 4] .nil)) else if i = 8 then .seq [0] (.both (.seq [1, 2, 3] .nil) (.seq [2, 1, 3] .nil)) else .nil
theorem s75_5 : s75 5 = .seq [0] (.both (.seq [1] (.both (.seq [2, 3, 4] .nil) (.seq [3, 2, 4] .nil))) (.seq [2, 1, 3, 4] .nil)) := rfl
theorem s75_7 : s75 7 = .seq [1] (.both (.seq [0, 2, 3, 4] .nil) (.seq [2, 0, 3, 4] .nil)) := rfl
theorem s75_8 : s75 8 = .seq [0] (.both (.seq [1, 2, 3] .nil) (.seq [2, 1, 3] .nil)) := rfl
theorem s75_ok : okCode E 24 s75 (Tryz.f75.body.getD .skip) = true := by kernel_rfl
def s78 (i : Nat) : Tr := if i = 1 then .seq [0, 1, 2, 3, 5, 6, 4, 7, 8, 9] .nil else .nil
theorem s78_1 : s78 1 = .seq [0, 1, 2, 3, 5, 6, 4, 7, 8, 9] .nil := rfl
theorem s78_ok : okCode E 12 s78 (Tryz.f78.body.getD .skip) = true := by kernel_rfl
def s80 (i : Nat) : Tr := if i = 5 then .seq [0, 1, 2, 3, 4, 5, 6, 7, 8, 9, 10, 11, 12, 13, 14, 15, 16, 17, 18, 19, 20, 21, 22, 23, 24, 25, 26, 27, 28, 29, 30, 31, 32, 33, 34, 35, 36, 37, 38] .nil else .nil
theorem s80_5 : s80 5 = .seq [0, 1, 2, 3, 4, 5, 6, 7, 8, 9, 10, 11, 12, 13, 14, 15, 16, 17, 18, 19, 20, 21, 22, 23, 24, 25, 26, 27, 28, 29, 30, 31, 32, 33, 34, 35, 36, 37, 38] .nil := rfl
theorem s80_ok : okCode E 60 s80 (Tryz.f80.body.getD .skip) = true := by kernel_rfl
def s81 (i : Nat) : Tr := if i = 3 then .seq [0, 2, 3, 4, 5] (.both (.seq [1] (.both (.seq [6, 7, 8, 9, 10] .nil) (.seq [9, 6, 7, 8, 10] .nil))) (.both (.seq [6, 1, 7, 8, 9, 10] .nil) (.seq [9] (.both (.seq [1, 6, 7, 8, 10] .nil) (.seq [6, 1, 7, 8, 10] .nil))))) else if i = 5 then .seq [0, 2, 3, 5, 6] (.both (.seq [1] (.both (.seq [4] (.both (.seq [7, 8, 9, 10] .nil) (.seq [9, 7, 8, 10] .nil))) (.seq [9, 4, 7, 8, 10] .nil))) (.both (.seq [4] (.both (.seq [1] (.both (.seq [7, 8, 9, 10] .nil) (.seq [9, 7, 8, 10] .nil))) (.both (.seq [7, 1, 8, 9, 10] .nil) (.seq [9] (.both (.seq [1, 7, 8, 10] .nil) (.seq [7, 1, 8, 10] .nil)))))) (.seq [9] (.both (.seq [1, 4, 7, 8, 10] .nil) (.seq [4] (.both (.seq [1, 7, 8, 10] .nil) (.seq [7, 1, 8, 10] .nil))))))) else if i = 10 then .seq [0, 1, 2, 3, 4, 5, 6, 7, 8, 9, 10, 11, 12, 13] .nil else .nil
theorem s81_3 : s81 3 = .seq [0, 2, 3, 4, 5] (.both (.seq [1] (.both (.seq [6, 7, 8, 9, 10] .nil) (.seq [9, 6, 7, 8, 10] .nil))) (.both (.seq [6, 1, 7, 8, 9, 10] .nil) (.seq [9] (.both (.seq [1, 6, 7, 8, 10] .nil) (.seq [6, 1, 7, 8, 10] .nil))))) := rfl
theorem s81_5 : s81 5 = .seq [0, 2, 3, 5, 6] (.both (.seq [1] (.both (.seq [4] (.both (.seq [7, 8, 9, 10] .nil) (.seq [9, 7, 8, 10] .nil))) (.seq [9, 4, 7, 8, 10] .nil))) (.both (.seq [4] (.both (.seq [1] (.both (.seq [7, 8, 9, 10] .nil) (.seq [9, 7, 8, 10] .nil))) (.both (.seq [7, 1, 8, 9, 10] .nil) (.seq [9] (.both (.seq [1, 7, 8, 10] .nil) (.seq [7, 1, 8, 10] .nil)))))) (.seq [9] (.both (.seq [1, 4, 7, 8, 10] .nil) (.seq [4] (.both (.seq [1, 7, 8, 10] .nil) (.seq [7, 1, 8, 10] .nil))))))) := rfl
theorem s81_10 : s81 10 = .seq [0, 1, 2, 3, 4, 5, 6, 7, 8, 9, 10, 11, 12, 13] .nil := rfl
theorem s81_ok : okCode E 85 s81 (Tryz.f81.body.getD .skip) = true := by kernel_rfl
def s82 (i : Nat) : Tr := if i = 2 then .seq [0, 1, 2, 3, 4, 5, 6, 7, 8, 9, 10, 11, 12] .nil else if i = 3 then .seq [0, 1, 2, 3, 4, 5, 6, 7, 8, 9] .nil else if i = 4 then .seq [0, 1, 2, 3, 4, 5, 6, 7, 8, 9, 10, 11, 12, 13, 14] .nil else .nil
theorem s82_2 : s82 2 = .seq [0, 1, 2, 3, 4, 5, 6, 7, 8, 9, 10, 11, 12] .nil := rfl
theorem s82_3 : s82 3 = .seq [0, 1, 2, 3, 4, 5, 6, 7, 8, 9] .nil := rfl
theorem s82_4 : s82 4 = .seq [0, 1, 2, 3, 4, 5, 6, 7, 8, 9, 10, 11, 12, 13, 14] .nil := rfl
theorem s82_ok : okCode E 58 s82 (Tryz.f82.body.getD .skip) = true := by kernel_rfl
def s83 (i : Nat) : Tr := if i = 5 then .seq [0, 1, 2, 3, 4, 5, 6, 7, 8, 9, 10, 11] .nil else .nil
theorem s83_5 : s83 5 = .seq [0, 1, 2, 3, 4, 5, 6, 7, 8, 9, 10, 11] .nil := rfl
theorem s83_ok : okCode E 26 s83 (Tryz.f83.body.getD .skip) = true := by kernel_rfl
def s84 (_ : Nat) : Tr := .nil
theorem s84_ok : okCode E 26 s84 (Tryz.f84.body.getD .skip) = true := by kernel_rfl
def s85 (i : Nat) : Tr := if i = 8 then .seq [0, 1, 2, 3, 4, 5, 6, 7] .nil else .nil
theorem s85_8 : s85 8 = .seq [0, 1, 2, 3, 4, 5, 6, 7] .nil := rfl
theorem s85_ok : okCode E 48 s85 (Tryz.f85.body.getD .skip) = true := by kernel_rfl
def s86 (i : Nat) : Tr := if i = 3 then .seq [0, 1, 2, 3, 5, 6, 4] (.app 7 [22] (.seq [8, 9, 10, 11, 12] .nil)) else .nil
theorem s86_3 : s86 3 = .seq [0, 1, 2, 3, 5, 6, 4] (.app 7 [22] (.seq [8, 9, 10, 11, 12] .nil)) := rfl
theorem s86_ok : okCode E 33 s86 (Tryz.f86.body.getD .skip) = true := by kernel_rfl
def s87 (i : Nat) : Tr := if i = 10 then .seq [1, 2, 3, 4, 6, 9, 10, 11, 12] (.both (.seq [0] (.both (.app 5 [10, 68] (.seq [7] (.app 8 [68] (.seq [13, 14, 15] .nil)))) (.seq [7] (.app 5 [10, 68] (.app 8 [68] (.seq [13, 14, 15] .nil)))))) (.seq [7, 0] (.app 5 [10, 68] (.app 8 [68] (.seq [13, 14, 15] .nil))))) else .nil
theorem s87_10 : s87 10 = .seq [1, 2, 3, 4, 6, 9, 10, 11, 12] (.both (.seq [0] (.both (.app 5 [10, 68] (.seq [7] (.app 8 [68] (.seq [13, 14, 15] .nil)))) (.seq [7] (.app 5 [10, 68] (.app 8 [68] (.seq [13, 14, 15] .nil)))))) (.seq [7, 0] (.app 5 [10, 68] (.app 8 [68] (.seq [13, 14, 15] .nil))))) := rfl
theorem s87_ok : okCode E 80 s87 (Tryz.f87.body.getD .skip) = true := by kernel_rfl
def s88 (_ : Nat) : Tr := .nil
theorem s88_ok : okCode E 76 s88 (Tryz.f88.body.getD .skip) = true := by kernel_rfl
def s89 (i : Nat) : Tr := if i = 6 then .seq [0, 1, 2, 3, 4, 5, 6, 7, 8, 9, 10, 11, 12, 13, 14, 15, 16, 17, 18, 19, 20, 21, 22, 23, 24, 25, 26, 27, 28, 29, 30, 31, 32, 33, 34, 35, 36, 37, 38] .nil else .nil
theorem s89_6 : s89 6 = .seq [0, 1, 2, 3, 4, 5, 6, 7, 8, 9, 10, 11, 12, 13, 14, 15, 16, 17, 18, 19, 20, 21, 22, 23, 24, 25, 26, 27, 28, 29, 30, 31, 32, 33, 34, 35, 36, 37, 38] .nil := rfl
theorem s89_ok : okCode E 57 s89 (Tryz.f89.body.getD .skip) = true := by kernel_rfl
def s90 (i : Nat) : Tr := if i = 3 then .seq [0, 1, 2, 3, 4, 5, 6, 7, 8, 9, 10, 11, 12, 14] (.both (.seq [13] (.both (.seq [15, 16, 17, 18, 19] .nil) (.seq [18, 15, 16, 17, 19] .nil))) (.both (.seq [15] (.both (.seq [13, 16, 17, 18, 19] .nil) (.seq [18, 13, 16, 17, 19] .nil))) (.seq [18, 13, 15, 16, 17, 19] .nil))) else .nil
theorem s90_3 : s90 3 = .seq [0, 1, 2, 3, 4, 5, 6, 7, 8, 9, 10, 11, 12, 14] (.both (.seq [13] (.both (.seq [15, 16, 17, 18, 19] .nil) (.seq [18, 15, 16, 17, 19] .nil))) (.both (.seq [15] (.both (.seq [13, 16, 17, 18, 19] .nil) (.seq [18, 13, 16, 17, 19] .nil))) (.seq [18, 13, 15, 16, 17, 19] .nil))) := rfl
theorem s90_ok : okCode E 44 s90 (Tryz.f90.body.getD .skip) = true := by kernel_rfl
def s91 (_ : Nat) : Tr := .nil
theorem s91_ok : okCode E 19 s91 (Tryz.f91.body.getD .skip) = true := by kernel_rfl
def s92 (_ : Nat) : Tr := .nil
theorem s92_ok : okCode E 6 s92 (Tryz.f92.body.getD .skip) = true := by kernel_rfl
def s93 (_ : Nat) : Tr := .nil
theorem s93_ok : okCode E 22 s93 (Tryz.f93.body.getD .skip) = true := by kernel_rfl
def s94 (_ : Nat) : Tr := .nil
theorem s94_ok : okCode E 19 s94 (Tryz.f94.body.getD .skip) = true := by kernel_rfl
def s95 (i : Nat) : Tr := if i = 4 then .seq [0, 1, 2, 4, 5, 6, 3, 7, 8, 9] .nil else if i = 11 then .seq [0, 1, 2, 3, 4, 5, 6, 7] .nil else .nil
theorem s95_4 : s95 4 = .seq [0, 1, 2, 4, 5, 6, 3, 7, 8, 9] .nil := rfl
theorem s95_11 : s95 11 = .seq [0, 1, 2, 3, 4, 5, 6, 7] .nil := rfl
theorem s95_ok : okCode E 68 s95 (Tryz.f95.body.getD .skip) = true := by kernel_rfl
def s96 (_ : Nat) : Tr := .nil
theorem s96_ok : okCode E 9 s96 (Tryz.f96.body.getD .skip) = true := by kernel_rfl
def s97 (_ : Nat) : Tr := .nil
theorem s97_ok : okCode E 42 s97 (Tryz.f97.body.getD .skip) = true := by kernel_rfl
def s98 (_ : Nat) : Tr := .nil
theorem s98_ok : okCode E 41 s98 (Tryz.f98.body.getD .skip) = true := by kernel_rfl
def s99 (i : Nat) : Tr := if i = 11 then .seq [0, 1, 2, 3, 4, 5, 6, 7, 8, 9, 10, 11, 12, 13] .nil else if i = 26 then .seq [0, 1, 2, 3, 4, 5, 6, 7, 8, 9, 10, 11, 12, 13, 14, 15, 16, 17, 18, 19, 20, 21, 22] .nil else .nil
theorem s99_11 : s99 11 = .seq [0, 1, 2, 3, 4, 5, 6, 7, 8, 9, 10, 11, 12, 13] .nil := rfl
theorem s99_26 : s99 26 = .seq [0, 1, 2, 3, 4, 5, 6, 7, 8, 9, 10, 11, 12, 13, 14, 15, 16, 17, 18, 19, 20, 21, 22] .nil := rfl
theorem s99_ok : okCode E 134 s99 (Tryz.f99.body.getD .skip) = true := by kernel_rfl
def s100 (i : Nat) : Tr := if i = 5 then .seq [0, 1, 3, 4, 5, 6, 7, 2] (.app 8 [15] (.seq [9, 10, 11, 12] .nil)) else .nil
theorem s100_5 : s100 5 = .seq [0, 1, 3, 4, 5, 6, 7, 2] (.app 8 [15] (.seq [9, 10, 11, 12] .nil)) := rfl
theorem s100_ok : okCode E 28 s100 (Tryz.f100.body.getD .skip) = true := by kernel_rfl
def s101 (i : Nat) : Tr := if i = 6 then .seq [0, 1, 2, 3, 4, 5, 6, 7, 8, 9, 10, 11, 12, 13, 14, 15, 16, 17, 18, 19, 20, 21, 22, 23, 24, 25, 26, 27, 28, 29, 30, 31, 32, 33, 34, 35, 36] .nil else .nil
theorem s101_6 : s101 6 = .seq [0, 1, 2, 3, 4, 5, 6, 7, 8, 9, 10, 11, 12, 13, 14, 15, 16, 17, 18, 19, 20, 21, 22, 23, 24, 25, 26, 27, 28, 29, 30, 31, 32, 33, 34, 35, 36] .nil := rfl
theorem s101_ok : okCode E 58 s101 (Tryz.f101.body.getD .skip) = true := by kernel_rfl
def s102 (_ : Nat) : Tr := .nil
theorem s102_ok : okCode E 40 s102 (Tryz.f102.body.getD .skip) = true := by kernel_rfl
def s103 (_ : Nat) : Tr := .nil
theorem s103_ok : okCode E 46 s103 (Tryz.f103.body.getD .skip) = true := by kernel_rfl
def s104 (_ : Nat) : Tr := .nil
theorem s104_ok : okCode E 35 s104 (Tryz.f104.body.getD .skip) = true := by kernel_rfl
def s106 (_ : Nat) : Tr := .nil
theorem s106_ok : okCode E 9 s106 (Tryz.f106.body.getD .skip) = true := by kernel_rfl
def s110 (i : Nat) : Tr := if i = 1 then .seq [0, 2, 3, 1, 4, 5, 6] .nil else .nil
theorem s110_1 : s110 1 = .seq [0, 2, 3, 1, 4, 5, 6] .nil := rfl
theorem s110_ok : okCode E 11 s110 (Tryz.f110.body.getD .skip) = true := by kernel_rfl
def s111 (_ : Nat) : Tr := .nil
theorem s111_ok : okCode E 8 s111 (Tryz.f111.body.getD .skip) = true := by kernel_rfl
def s112 (_ : Nat) : Tr := .nil
theorem s112_ok : okCode E 19 s112 (Tryz.f112.body.getD .skip) = true := by kernel_rfl
def s114 (i : Nat) : Tr := if i = 13 then .seq [0, 2] (.both (.seq [1, 3, 4, 5, 6, 7] .nil) (.seq [3, 1, 4, 5, 6, 7] .nil)) else .nil
theorem s114_13 : s114 13 = .seq [0, 2] (.both (.seq [1, 3, 4, 5, 6, 7] .nil) (.seq [3, 1, 4, 5, 6, 7] .nil)) := rfl
theorem s114_ok : okCode E 47 s114 (Tryz.f114.body.getD .skip) = true := by kernel_rfl
def s115 (i : Nat) : Tr := if i = 14 then .seq [0, 2, 3, 4] (.both (.seq [1, 5, 6, 7, 8, 9] .nil) (.seq [5, 1, 6, 7, 8, 9] .nil)) else .nil
theorem s115_14 : s115 14 = .seq [0, 2, 3, 4] (.both (.seq [1, 5, 6, 7, 8, 9] .nil) (.seq [5, 1, 6, 7, 8, 9] .nil)) := rfl
theorem s115_ok : okCode E 83 s115 (Tryz.f115.body.getD .skip) = true := by kernel_rfl
def s116 (i : Nat) : Tr := if i = 5 then .seq [0, 2, 3] (.both (.seq [1, 4, 5, 6, 7, 8] .nil) (.seq [4] (.both (.seq [1, 5, 6, 7, 8] .nil) (.seq [5, 1, 6, 7, 8] .nil)))) else if i = 7 then .seq [0, 2, 3] (.both (.seq [1, 4, 5, 6, 7] .nil) (.seq [4, 1, 5, 6, 7] .nil)) else if i = 9 then .seq [0, 1, 2, 3, 4, 5, 6, 7, 8, 9, 10] .nil else .nil
theorem s116_5 : s116 5 = .seq [0, 2, 3] (.both (.seq [1, 4, 5, 6, 7, 8] .nil) (.seq [4] (.both (.seq [1, 5, 6, 7, 8] .nil) (.seq [5, 1, 6, 7, 8] .nil)))) := rfl
theorem s116_7 : s116 7 = .seq [0, 2, 3] (.both (.seq [1, 4, 5, 6, 7] .nil) (.seq [4, 1, 5, 6, 7] .nil)) := rfl
theorem s116_9 : s116 9 = .seq [0, 1, 2, 3, 4, 5, 6, 7, 8, 9, 10] .nil := rfl
theorem s116_ok : okCode E 50 s116 (Tryz.f116.body.getD .skip) = true := by kernel_rfl
def s117 (i : Nat) : Tr := if i = 6 then .seq [0, 2] (.both (.seq [1] (.both (.seq [3] (.both (.seq [4, 5, 6, 7, 8, 9, 10] .nil) (.seq [5, 4, 6, 7, 8, 9, 10] .nil))) (.seq [5, 3, 4, 6, 7, 8, 9, 10] .nil))) (.both (.seq [3] (.both (.seq [1] (.both (.seq [4, 5, 6, 7, 8, 9, 10] .nil) (.seq [5, 4, 6, 7, 8, 9, 10] .nil))) (.both (.seq [4, 1, 5, 6, 7, 8, 9, 10] .nil) (.seq [5] (.both (.seq [1, 4, 6, 7, 8, 9, 10] .nil) (.seq [4, 1, 6, 7, 8, 9, 10] .nil)))))) (.seq [5] (.both (.seq [1, 3, 4, 6, 7, 8, 9, 10] .nil) (.seq [3] (.both (.seq [1, 4, 6, 7, 8, 9, 10] .nil) (.seq [4, 1, 6, 7, 8, 9, 10] .nil))))))) else if i = 8 then .seq [0, 2] (.both (.seq [1, 3, 4, 5, 6, 7, 8] .nil) (.seq [3, 1, 4, 5, 6, 7, 8] .nil)) else if i = 12 then .seq [0, 5] (.both (.seq [1, 2, 3] (.both (.seq [4, 6, 7, 8, 9] .nil) (.seq [6] (.both (.seq [4, 7, 8, 9] .nil) (.seq [7, 4, 8, 9] .nil))))) (.seq [6] (.both (.seq [1, 2, 3] (.both (.seq [4, 7, 8, 9] .nil) (.seq [7, 4, 8, 9] .nil))) (.seq [7, 1, 2, 3, 4, 8, 9] .nil)))) else .nil
theorem s117_6 : s117 6 = .seq [0, 2] (.both (.seq [1] (.both (.seq [3] (.both (.seq [4, 5, 6, 7, 8, 9, 10] .nil) (.seq [5, 4, 6, 7, 8, 9, 10] .nil))) (.seq [5, 3, 4, 6, 7, 8, 9, 10] .nil))) (.both (.seq [3] (.both (.seq [1] (.both (.seq [4, 5, 6, 7, 8, 9, 10] .nil) (.seq [5, 4, 6, 7, 8, 9, 10] .nil))) (.both (.seq [4, 1, 5, 6, 7, 8, 9, 10] .nil) (.seq [5] (.both (.seq [1, 4, 6, 7, 8, 9, 10] .nil) (.seq [4, 1, 6, 7, 8, 9, 10] .nil)))))) (.seq [5] (.both (.seq [1, 3, 4, 6, 7, 8, 9, 10] .nil) (.seq [3] (.both (.seq [1, 4, 6, 7, 8, 9, 10] .nil) (.seq [4, 1, 6, 7, 8, 9, 10] .nil))))))) := rfl
theorem s117_8 : s117 8 = .seq [0, 2] (.both (.seq [1, 3, 4, 5, 6, 7, 8] .nil) (.seq [3, 1, 4, 5, 6, 7, 8] .nil)) := rfl
theorem s117_12 : s117 12 = .seq [0, 5] (.both (.seq [1, 2, 3] (.both (.seq [4, 6, 7, 8, 9] .nil) (.seq [6] (.both (.seq [4, 7, 8, 9] .nil) (.seq [7, 4, 8, 9] .nil))))) (.seq [6] (.both (.seq [1, 2, 3] (.both (.seq [4, 7, 8, 9] .nil) (.seq [7, 4, 8, 9] .nil))) (.seq [7, 1, 2, 3, 4, 8, 9] .nil)))) := rfl
theorem s117_ok : okCode E 57 s117 (Tryz.f117.body.getD .skip) = true := by kernel_rfl
def s119 (_ : Nat) : Tr := .nil
theorem s119_ok : okCode E 23 s119 (Tryz.f119.body.getD .skip) = true := by kernel_rfl
def s120 (_ : Nat) : Tr := .nil
theorem s120_ok : okCode E 36 s120 (Tryz.f120.body.getD .skip) = true := by kernel_rfl
def s121 (i : Nat) : Tr := if i = 7 then .seq [1, 4, 5, 6, 7, 0] (.app 2 [46] (.seq [3, 8, 9] .nil)) else .nil
theorem s121_7 : s121 7 = .seq [1, 4, 5, 6, 7, 0] (.app 2 [46] (.seq [3, 8, 9] .nil)) := rfl
theorem s121_ok : okCode E 61 s121 (Tryz.f121.body.getD .skip) = true := by kernel_rfl
def s122 (_ : Nat) : Tr := .nil
theorem s122_ok : okCode E 12 s122 (Tryz.f122.body.getD .skip) = true := by kernel_rfl
def s123 (i : Nat) : Tr := if i = 6 then .seq [0, 2, 3, 4, 5] (.both (.seq [1, 6, 7, 8, 9, 10] .nil) (.seq [6, 1, 7, 8, 9, 10] .nil)) else if i = 9 then .seq [0, 4] (.both (.seq [1, 2] (.both (.seq [3, 5, 6, 7, 8] .nil) (.seq [5] (.both (.seq [3, 6, 7, 8] .nil) (.seq [6, 3, 7, 8] .nil))))) (.seq [5] (.both (.seq [1, 2] (.both (.seq [3, 6, 7, 8] .nil) (.seq [6, 3, 7, 8] .nil))) (.seq [6, 1, 2, 3, 7, 8] .nil)))) else .nil
theorem s123_6 : s123 6 = .seq [0, 2, 3, 4, 5] (.both (.seq [1, 6, 7, 8, 9, 10] .nil) (.seq [6, 1, 7, 8, 9, 10] .nil)) := rfl
theorem s123_9 : s123 9 = .seq [0, 4] (.both (.seq [1, 2] (.both (.seq [3, 5, 6, 7, 8] .nil) (.seq [5] (.both (.seq [3, 6, 7, 8] .nil) (.seq [6, 3, 7, 8] .nil))))) (.seq [5] (.both (.seq [1, 2] (.both (.seq [3, 6, 7, 8] .nil) (.seq [6, 3, 7, 8] .nil))) (.seq [6, 1, 2, 3, 7, 8] .nil)))) := rfl
theorem s123_ok : okCode E 51 s123 (Tryz.f123.body.getD .skip) = true := by kernel_rfl
def s124 (i : Nat) : Tr := if i = 1 then .seq [0, 1, 2, 3, 4, 5, 6] .nil else .nil
theorem s124_1 : s124 1 = .seq [0, 1, 2, 3, 4, 5, 6] .nil := rfl
theorem s124_ok : okCode E 9 s124 (Tryz.f124.body.getD .skip) = true := by kernel_rfl
def s125 (_ : Nat) : Tr := .nil
theorem s125_ok : okCode E 35 s125 (Tryz.f125.body.getD .skip) = true := by kernel_rfl
def s126 (_ : Nat) : Tr := .nil
theorem s126_ok : okCode E 27 s126 (Tryz.f126.body.getD .skip) = true := by kernel_rfl
def s127 (_ : Nat) : Tr := .nil
theorem s127_ok : okCode E 5 s127 (Tryz.f127.body.getD .skip) = true := by kernel_rfl
def s128 (i : Nat) : Tr := if i = 4 then .seq [0, 1, 2, 3, 4, 5, 6, 7, 8] .nil else if i = 5 then .seq [0, 1, 2, 3, 4, 5, 6, 7, 8, 9] .nil else .nil
theorem s128_4 : s128 4 = .seq [0, 1, 2, 3, 4, 5, 6, 7, 8] .nil := rfl
theorem s128_5 : s128 5 = .seq [0, 1, 2, 3, 4, 5, 6, 7, 8, 9] .nil := rfl
theorem s128_ok : okCode E 41 s128 (Tryz.f128.body.getD .skip) = true := by kernel_rfl
def s129 (_ : Nat) : Tr := .nil
theorem s129_ok : okCode E 9 s129 (Tryz.f129.body.getD .skip) = true := by kernel_rfl
def s130 (_ : Nat) : Tr := .nil
theorem s130_ok : okCode E 20 s130 (Tryz.f130.body.getD .skip) = true := by kernel_rfl
def s131 (_ : Nat) : Tr := .nil
theorem s131_ok : okCode E 19 s131 (Tryz.f131.body.getD .skip) = true := by kernel_rfl
def s132 (_ : Nat) : Tr := .nil
theorem s132_ok : okCode E 16 s132 (Tryz.f132.body.getD .skip) = true := by kernel_rfl
def s133 (i : Nat) : Tr := if i = 13 then .seq [0, 1, 2, 3, 4, 5, 6, 7] .nil else .nil
theorem s133_13 : s133 13 = .seq [0, 1, 2, 3, 4, 5, 6, 7] .nil := rfl
theorem s133_ok : okCode E 80 s133 (Tryz.f133.body.getD .skip) = true := by kernel_rfl
def s134 (_ : Nat) : Tr := .nil
theorem s134_ok : okCode E 46 s134 (Tryz.f134.body.getD .skip) = true := by kernel_rfl
def s135 (_ : Nat) : Tr := .nil
theorem s135_ok : okCode E 12 s135 (Tryz.f135.body.getD .skip) = true := by kernel_rfl
def s136 (i : Nat) : Tr := if i = 10 then .seq [0, 1, 2, 3, 4, 5, 6, 7, 8, 9, 10, 11, 12, 13, 14] .nil else if i = 17 then .seq [0, 2, 3, 4, 5, 6, 7, 8, 9, 1, 10] .nil else .nil
theorem s136_10 : s136 10 = .seq [0, 1, 2, 3, 4, 5, 6, 7, 8, 9, 10, 11, 12, 13, 14] .nil := rfl
theorem s136_17 : s136 17 = .seq [0, 2, 3, 4, 5, 6, 7, 8, 9, 1, 10] .nil := rfl
theorem s136_ok : okCode E 90 s136 (Tryz.f136.body.getD .skip) = true := by kernel_rfl
def s137 (_ : Nat) : Tr := .nil
theorem s137_ok : okCode E 20 s137 (Tryz.f137.body.getD .skip) = true := by kernel_rfl
def s138 (_ : Nat) : Tr := .nil
theorem s138_ok : okCode E 15 s138 (Tryz.f138.body.getD .skip) = true := by kernel_rfl
def s139 (_ : Nat) : Tr := .nil
theorem s139_ok : okCode E 31 s139 (Tryz.f139.body.getD .skip) = true := by kernel_rfl
def s140 (_ : Nat) : Tr := .nil
theorem s140_ok : okCode E 13 s140 (Tryz.f140.body.getD .skip) = true := by kernel_rfl
def s141 (_ : Nat) : Tr := .nil
theorem s141_ok : okCode E 35 s141 (Tryz.f141.body.getD .skip) = true := by kernel_rfl
def s142 (i : Nat) : Tr := if i = 8 then .seq [0, 2, 3, 4, 5, 6, 1, 7] .nil else .nil
theorem s142_8 : s142 8 = .seq [0, 2, 3, 4, 5, 6, 1, 7] .nil := rfl
theorem s142_ok : okCode E 30 s142 (Tryz.f142.body.getD .skip) = true := by kernel_rfl
def s143 (_ : Nat) : Tr := .nil
theorem s143_ok : okCode E 10 s143 (Tryz.f143.body.getD .skip) = true := by kernel_rfl
def s144 (i : Nat) : Tr := if i = 9 then .seq [0, 1, 2, 3, 4, 5, 6, 7, 8, 9, 10, 11, 12, 13, 14, 15, 16] .nil else .nil
theorem s144_9 : s144 9 = .seq [0, 1, 2, 3, 4, 5, 6, 7, 8, 9, 10, 11, 12, 13, 14, 15, 16] .nil := rfl
theorem s144_ok : okCode E 40 s144 (Tryz.f144.body.getD .skip) = true := by kernel_rfl
def s145 (_ : Nat) : Tr := .nil
theorem s145_ok : okCode E 20 s145 (Tryz.f145.body.getD .skip) = true := by kernel_rfl
end Go.Proofs.YtmgphabeodaokaaGreat
namespace Go.Proofs.YtmgphabeodaokaaGreat
open Go.Vs Go.Proofs Go
set_option maxRecDepth 100000
set_option maxHeartbeats 1000000
attribute [simp] plI_id plStr_id map_plI map_plStr pS cP cI cStr cU8 cB
theorem w_impl_within (n lo hi : Int) : VC Tryz.prog 35 [.d (.int .i64 n), .d (.int .i64 lo), .d (.int .i64 hi)] (fun _ r => r = .d (.bool (inR n lo hi))) := by
  refine VC.ofL EP s35 (by kernel_rfl) Tryz.func35 (by rfl) (by kernel_rfl) (by simp [Tryz.f35]) (by simp [Tryz.f35]) s35_ok fun B hl => ?_
  by_cases h : lo <= n
  · simp [Tryz.f35, inR, h]
  · simp [Tryz.f35, inR, h]
theorem w_spec_l1In (n lo hi : Int) : VC Tryz.prog 48 [.d (.int .i64 n), .d (.int .i64 lo), .d (.int .i64 hi)] (fun _ r => r = .d (.bool (inR n lo hi))) := by
  refine VC.ofL EP s48 (by kernel_rfl) Tryz.func48 (by rfl) (by kernel_rfl) (by simp [Tryz.f48]) (by simp [Tryz.f48]) s48_ok fun B hl => ?_
  by_cases h : lo <= n
  · simp [Tryz.f48, inR, h]
  · simp [Tryz.f48, inR, h]
theorem w_impl_AreValidValues (xs : List Int) : VC Tryz.prog 138 [.d (pS cI xs)] (fun _ r => r = .d (.bool (valsOk xs))) := by
  refine VC.ofL EP s138 (by kernel_rfl) Tryz.func138 (by rfl) (by kernel_rfl) (by simp [Tryz.f138]) (by simp [Tryz.f138]) s138_ok fun B hl => ?_
  simp [pS, maxLen] at hl
  simp [Tryz.f138, pS]
  refine loop_rule (X := Nat) (fun i => i <= xs.length /\ (xs.take i).all (fun v => inR v 0 99) = true) (fun i => [(5, .d (.pl (xs.map cI))), (6, .d (.int .i64 xs.length)), (7, .d (.int .i64 i))]) (fun _ => []) (fun i => xs.length - i) 0 (by simp) (by simp) (by simp) ?_
  intro i hs t m hi hh
  by_cases hlt : i < xs.length
  · have hwi := wr1 (i := i) (by omega)
    have hst := all_step (p := fun v => inR v 0 99) hlt
    rw [hi.2, Bool.true_and] at hst
    have hbad : inR xs[i] 0 99 = false -> valsOk xs = false := all_bad (p := fun v => inR v 0 99) hlt
    simp [hlt, cI]
    refine call_f (w_impl_within xs[i] 0 99) (by simp) rfl fun hs1 hh1 => ?_
    cases hc : inR xs[i] 0 99
    · simp [hbad hc]
    · simp [hwi]
      simp at hh1
      exact back (i + 1) ⟨by omega, List.all_eq_true.1 (hst.trans hc)⟩ (by omega) rfl (by simp <;> omega) (by simp) (by simp)
  · have hd : valsOk xs = true := all_done (by omega) hi.2
    simp [hlt, hd]
end Go.Proofs.YtmgphabeodaokaaGreat
namespace Go.Proofs.YtmgphabeodaokaaGreat
open Go.Vs Go.Proofs Go
set_option maxRecDepth 100000
set_option maxHeartbeats 1000000
theorem w_spec_AreValidValues (xs : List Int) : VC Tryz.prog 132 [.d (pS cI xs)] (fun _ r => r = .d (.bool (valsOk xs))) := by
  refine VC.ofL EP s132 (by kernel_rfl) Tryz.func132 (by rfl) (by kernel_rfl) (by simp [Tryz.f132]) (by simp [Tryz.f132]) s132_ok fun B hl => ?_
  simp [pS, maxLen] at hl
  simp [Tryz.f132, pS]
  refine loop_rule (X := Nat) (fun i => i <= xs.length /\ (xs.take i).all (fun v => inR v 0 99) = true) (fun i => [(0, .d (.pl (xs.map cI))), (3, .d (.int .i64 i))]) (fun _ => []) (fun i => xs.length - i) 0 (by simp) (by simp) (by simp) ?_
  intro i hs t m hi hh
  by_cases hlt : i < xs.length
  · have hwi := wr1 (i := i) (by omega)
    have hst := all_step (p := fun v => inR v 0 99) hlt
    rw [hi.2, Bool.true_and] at hst
    have hbad : inR xs[i] 0 99 = false -> valsOk xs = false := all_bad (p := fun v => inR v 0 99) hlt
    simp [hlt, cI]
    refine call_f (w_spec_l1In xs[i] 0 99) (by simp) rfl fun hs1 hh1 => ?_
    simp at hh1
    cases hc : inR xs[i] 0 99
    · simp [hbad hc]
    · simp [hwi]
      exact back (i + 1) ⟨by omega, List.all_eq_true.1 (hst.trans hc)⟩ (by omega) rfl (by simp <;> omega) (by simp) (by simp)
  · have hd : valsOk xs = true := all_done (by omega) hi.2
    simp [hlt, hd]
theorem w_spec_CompareRows (a b : List Int) : VC Tryz.prog 55 [.d (pS cI a), .d (pS cI b)] (fun _ r => r = .d (.int .i64 (cmpL a b))) := by
  refine VC.ofL EP s55 (by kernel_rfl) Tryz.func55 (by rfl) (by kernel_rfl) (by simp [Tryz.f55]) (by simp [Tryz.f55]) s55_ok fun B hl => ?_
  simp [pS, maxLen, cI] at hl
  simp [Tryz.f55, s55_4, s55_6, pS]
  refine loop_rule (X := Nat) (fun i => i <= a.length /\ i <= b.length /\ cmpL a b = cmpL (a.drop i) (b.drop i)) (fun i => [(0, .d (.pl (a.map cI))), (1, .d (.pl (b.map cI))), (5, .d (.int .i64 i))]) (fun _ => []) (fun i => a.length - i) 0 (by simp) (by simp) (by simp) ?_
  intro i hs t m hi hh
  by_cases hlt : i < a.length
  · by_cases hlb : i < b.length
    · have hwi := wr1 (i := i) (by omega)
      have hc := cmpL_drop hlt hlb
      rw [<- hi.2.2] at hc
      by_cases h1 : a[i] < b[i]
      · simp [cI, s55_4, s55_6, hlt, hlb, h1, hc]
      · by_cases h2 : b[i] < a[i]
        · simp [cI, s55_4, s55_6, hlt, hlb, h1, h2, hc]
        · simp only [h1, h2, if_false] at hc
          simp [cI, s55_4, s55_6, hlt, hlb, h1, h2, hwi]
          exact back (i + 1) ⟨by omega, by omega, hc⟩ (by omega) rfl (by simp) (by simp) (by simp)
    · have he := cmpL_end hi.1 hi.2.1 (by omega)
      rw [<- hi.2.2] at he
      by_cases h1 : a.length < b.length
      · simp [hlt, hlb, h1, he]
      · by_cases h2 : b.length < a.length <;> simp [hlt, hlb, h1, h2, he]
  · have he := cmpL_end hi.1 hi.2.1 (by omega)
    rw [<- hi.2.2] at he
    by_cases h1 : a.length < b.length
    · simp [hlt, h1, he]
    · by_cases h2 : b.length < a.length <;> simp [hlt, h1, h2, he]
theorem w_impl_compareInts (x y : Int) : VC Tryz.prog 140 [.d (.int .i64 x), .d (.int .i64 y)] (fun _ r => r = .d (.int .i64 (if x < y then -1 else if y < x then 1 else 0))) := by
  refine VC.ofL EP s140 (by kernel_rfl) Tryz.func140 (by rfl) (by kernel_rfl) (by simp [Tryz.f140]) (by simp [Tryz.f140]) s140_ok fun B hl => ?_
  by_cases h1 : x < y
  · simp [Tryz.f140, h1]
  · by_cases h2 : y < x <;> simp [Tryz.f140, h1, h2]
theorem w_impl_CompareRows (a b : List Int) : VC Tryz.prog 128 [.d (pS cI a), .d (pS cI b)] (fun _ r => r = .d (.int .i64 (cmpL a b))) := by
  refine VC.ofL EP s128 (by kernel_rfl) Tryz.func128 (by rfl) (by kernel_rfl) (by simp [Tryz.f128]) (by simp [Tryz.f128]) s128_ok fun B hl => ?_
  simp [pS, maxLen, cI] at hl
  simp [Tryz.f128, s128_4, s128_5, pS]
  refine loop_rule (X := Nat) (fun i => i <= a.length /\ i <= b.length /\ cmpL a b = cmpL (a.drop i) (b.drop i)) (fun i => [(0, .d (.pl (a.map cI))), (1, .d (.pl (b.map cI))), (5, .d (.int .i64 i))]) (fun _ => []) (fun i => a.length - i) 0 (by simp) (by simp) (by simp) ?_
  intro i hs t m hi hh
  by_cases hlt : i < a.length /\ i < b.length
  · obtain ⟨hlt, hlb⟩ := hlt
    have hwi := wr1 (i := i) (by omega)
    have hc := cmpL_drop hlt hlb
    rw [<- hi.2.2] at hc
    by_cases he : a[i] = b[i]
    · rw [if_neg (by omega), if_neg (by omega)] at hc
      simp [cI, s128_4, s128_5, hlt, hlb, hwi, he]
      exact back (i + 1) ⟨by omega, by omega, hc⟩ (by omega) rfl (by simp) (by simp) (by simp)
    · simp [cI, s128_4, s128_5, hlt, hlb, hwi, he]
      refine call_f (w_impl_compareInts a[i] b[i]) (by simp) rfl fun hs1 hh1 => ?_
      have : (if a[i] < b[i] then (-1 : Int) else if b[i] < a[i] then 1 else 0) = cmpL a b := by rw [hc]; by_cases h1 : a[i] < b[i] <;> simp [h1]; omega
      simp [this]
  · have he := cmpL_end hi.1 hi.2.1 hlt
    rw [<- hi.2.2] at he
    have hcm : (if (a.length : Int) < b.length then (-1 : Int) else if (b.length : Int) < a.length then 1 else 0) = cmpL a b := by rw [he]; simp
    by_cases hl1 : i < a.length
    · have hl2 : ¬ i < b.length := fun h => hlt ⟨hl1, h⟩
      simp [hl1, hl2]
      refine call_f (w_impl_compareInts a.length b.length) (by simp) rfl fun hs1 hh1 => ?_
      simp only [hcm]
      simp
    · simp [hl1]
      refine call_f (w_impl_compareInts a.length b.length) (by simp) rfl fun hs1 hh1 => ?_
      simp only [hcm]
      simp
theorem w_impl_rowsValid (ar : Int) (l : List (List Int)) : VC Tryz.prog 134 [.d (.int .i64 ar), .d (pS (cP cI) l)] (fun _ r => r = .d (.bool (rowsOk ar l))) := by
  refine VC.ofL EP s134 (by kernel_rfl) Tryz.func134 (by rfl) (by kernel_rfl) (by simp [Tryz.f134]) (by simp [Tryz.f134]) s134_ok fun B hl => ?_
  simp [pS, cP, cI, maxLen] at hl
  simp [Tryz.f134, pS]
  refine call_f (w_impl_within ar 0 5) (by simp) rfl fun hs0 hh0 => ?_
  simp at hh0
  cases h1 : inR ar 0 5
  · simp [rowsOk, h1]
  by_cases h2 : (4000 : Int) < l.length
  · simp [rowsOk, h2, show ¬ l.length <= 4000 by omega]
  have h2' : l.length <= 4000 := by omega
  simp [h2]
  refine loop_rule (X := Nat) (fun i => i <= l.length /\ ∀ j, j < i -> rowOk ar l j = true) (fun i => [(0, .d (.int .i64 ar)), (1, .d (.pl (l.map (cP cI)))), (15, .d (.pl (l.map (cP cI)))), (16, .d (.int .i64 l.length)), (17, .d (.int .i64 i))]) (fun _ => []) (fun i => l.length - i) 0 (by simp) (by simp) (by simp) ?_
  intro i hs t m hi hh
  by_cases hlt : i < l.length
  · have hwi := wr1 (i := i) (by omega)
    have hr : rowOk ar l i = (decide ((l[i].length : Int) = ar) && valsOk l[i] && (i == 0 || decide (cmpL (l.getD (i - 1) []) l[i] < 0))) := by simp [rowOk, hlt]
    have hbad := fun h => rows_bad (ar := ar) hlt h
    have step : rowOk ar l i = true -> ∀ j, j < i + 1 -> rowOk ar l j = true := fun h j hj => by
      rcases Nat.lt_succ_iff_lt_or_eq.1 hj with h' | h'
      · exact hi.2 j h'
      · rw [h']; exact h
    by_cases c1 : (l[i].length : Int) = ar
    case neg => simp [hlt, cP, pS, c1, hbad (by rw [hr]; simp [c1])]
    simp [hlt, cP, pS, c1]
    refine call_f (w_impl_AreValidValues l[i]) (by simp [pS]) rfl fun hs1 hh1 => ?_
    simp at hh1
    cases c2 : valsOk l[i]
    · simp [hbad (by rw [hr]; simp [c2])]
    by_cases c3 : i = 0
    · subst c3
      simp [hwi, show IntKind.i64.wrap 1 = 1 by decide]
      exact back 1 ⟨by omega, step (by rw [hr]; simp [c1, c2])⟩ (by omega) rfl (by simp <;> omega) (by simp [cP, pS, show IntKind.i64.wrap 1 = 1 by decide]) (by simp)
    · have hw1 : IntKind.i64.wrap ((i : Int) - 1) = ((i - 1 : Nat) : Int) := by rw [wrap64_of (by omega) (by omega)]; omega
      have hip : (0 : Int) < i := by omega
      have hlt1 : i - 1 < l.length := by omega
      have hg1 : l.getD (i - 1) [] = l[i - 1] := by simp [hlt1]
      rw [hg1] at hr
      simp [hip, hw1, hlt1, cP, pS, c3, show 0 < i by omega]
      refine call_f (w_impl_CompareRows l[i - 1] l[i]) (by simp [pS]) rfl fun hs2 hh2 => ?_
      simp at hh2
      by_cases c4 : cmpL l[i - 1] l[i] < 0
      · simp [hwi, show ¬ 0 <= cmpL l[i - 1] l[i] by omega]
        exact back (i + 1) ⟨by omega, step (by rw [hr]; simp [c1, c2, c4])⟩ (by omega) rfl (by simp <;> omega) (by simp [cP, pS]) (by simp)
      · simp [show 0 <= cmpL l[i - 1] l[i] by omega, hbad (by rw [hr]; simp [c3, c4])]
  · have hn : i = l.length := by omega
    have hd := rows_done h1 h2' (hn ▸ hi.2)
    simp [hlt, hd]
theorem w_impl_IsValidRelation (r : PReln) : VC Tryz.prog 111 [.agg ((eReln r).map .d)] (fun _ v => v = .d (.bool (rowsOk r.ar r.rows))) := by
  refine VC.ofL EP s111 (by kernel_rfl) Tryz.func111 (by rfl) (by kernel_rfl) (by simp [Tryz.f111]) (by simp [Tryz.f111]) s111_ok fun B hl => ?_
  simp [Tryz.f111, eReln, cI, cP]
  refine call_f (w_impl_rowsValid r.ar r.rows) (by simp [pS, cP]) rfl fun hs0 hh0 => ?_
  simp
theorem w_spec_IsValidRelation (r : PReln) : VC Tryz.prog 101 [.agg ((eReln r).map .d)] (fun _ v => v = .d (.bool (rowsOk r.ar r.rows))) := by
  obtain ⟨ar, l⟩ := r
  refine VC.ofL EP s101 (by kernel_rfl) Tryz.func101 (by rfl) (by kernel_rfl) (by simp [Tryz.f101]) (by simp [Tryz.f101]) s101_ok fun B hl => ?_
  simp [eReln, pS, cP, cI, maxLen] at hl
  simp [Tryz.f101, s101_6, eReln, cI, cP, pS]
  refine call_f (w_spec_l1In ar 0 5) (by simp) rfl fun hs0 hh0 => ?_
  simp at hh0
  cases h1 : inR ar 0 5
  · simp [rowsOk, h1]
  by_cases h2 : (4000 : Int) < l.length
  · simp [rowsOk, h2, show ¬ l.length <= 4000 by omega]
  have h2' : l.length <= 4000 := by omega
  simp [h2]
  refine loop_rule (X := Nat) (fun i => i <= l.length /\ ∀ j, j < i -> rowOk ar l j = true) (fun i => [(1, .ptr 1 0 0), (3, .d (.int .i64 i))]) (fun _ => [(1, some (.box [.d (.int .i64 ar), .d (.pl (l.map fun xs => [.pl (xs.map cI)]))]))]) (fun i => l.length - i) 0 (by simp) (by simp) (by simp [cI, cP, pS]) ?_
  intro i hs t m hi hh
  by_cases hlt : i < l.length
  · have hwi := wr1 (i := i) (by omega)
    have hr : rowOk ar l i = (decide ((l[i].length : Int) = ar) && valsOk l[i] && (i == 0 || decide (cmpL (l.getD (i - 1) []) l[i] < 0))) := by simp [rowOk, hlt]
    have hbad := fun h => rows_bad (ar := ar) hlt h
    have step : rowOk ar l i = true -> ∀ j, j < i + 1 -> rowOk ar l j = true := fun h j hj => by
      rcases Nat.lt_succ_iff_lt_or_eq.1 hj with h' | h'
      · exact hi.2 j h'
      · rw [h']; exact h
    by_cases c1 : (l[i].length : Int) = ar
    case neg => simp [hlt, s101_6, c1, hbad (by rw [hr]; simp [c1])]
    simp [hlt, s101_6, c1]
    refine call_f (w_spec_AreValidValues l[i]) (by simp [pS]) rfl fun hs1 hh1 => ?_
    simp at hh1
    cases c2 : valsOk l[i]
    · simp [hbad (by rw [hr]; simp [c2])]
    by_cases c3 : i = 0
    · subst c3
      simp [hwi, show IntKind.i64.wrap 1 = 1 by decide]
      exact back 1 ⟨by omega, step (by rw [hr]; simp [c1, c2])⟩ (by omega) rfl (by simp <;> omega) (by simp [show IntKind.i64.wrap 1 = 1 by decide]) (by simp)
    · have hw1 : IntKind.i64.wrap ((i : Int) - 1) = ((i - 1 : Nat) : Int) := by rw [wrap64_of (by omega) (by omega)]; omega
      have hip : (0 : Int) < i := by omega
      have hlt1 : i - 1 < l.length := by omega
      have hg1 : l.getD (i - 1) [] = l[i - 1] := by simp [hlt1]
      rw [hg1] at hr
      simp [hip, hw1, hlt1, hlt, c3, show 0 < i by omega]
      refine call_f (w_spec_CompareRows l[i - 1] l[i]) (by simp [pS]) rfl fun hs2 hh2 => ?_
      simp at hh2
      by_cases c4 : cmpL l[i - 1] l[i] < 0
      · simp [hwi, show ¬ 0 <= cmpL l[i - 1] l[i] by omega]
        exact back (i + 1) ⟨by omega, step (by rw [hr]; simp [c1, c2, c4])⟩ (by omega) rfl (by simp <;> omega) (by simp) (by simp)
      · simp [show 0 <= cmpL l[i - 1] l[i] by omega, hbad (by rw [hr]; simp [c3, c4])]
  · have hn : i = l.length := by omega
    have hd := rows_done h1 h2' (hn ▸ hi.2)
    simp [hlt, hd]
theorem w_impl_place (l : List (List Int)) (row : List Int) (hb : l.length <= 4294967296) : VC Tryz.prog 97 [.d (pS (cP cI) l), .d (pS cI row)] (fun _ v => v = .tup [.d (.int .i64 (placeK l row)), .d (.bool (placeB l row))]) := by
  refine VC.ofL EP s97 (by kernel_rfl) Tryz.func97 (by rfl) (by kernel_rfl) (by simp [Tryz.f97]) (by simp [Tryz.f97]) s97_ok fun B hl => ?_
  simp [pS, cP, cI, maxLen] at hl
  simp [Tryz.f97, pS]
  refine loop_rule (X := Nat × Nat) (fun p => p.1 <= p.2 /\ p.2 <= l.length /\ bs l row p.1 p.2 = placeK l row) (fun p => [(0, .d (.pl (l.map (cP cI)))), (1, .d (.pl (row.map cI))), (6, .d (.int .i64 p.1)), (7, .d (.int .i64 p.2))]) (fun _ => []) (fun p => p.2 - p.1) (0, l.length) (by simp; rfl) (by simp) (by simp) ?_
  rintro ⟨lo, hi⟩ hs t m ⟨h1, h2, h3⟩ hh
  simp only at h1 h2 h3
  by_cases hlt : lo < hi
  · rw [bs_lt hlt] at h3
    have hm := mid64 (a := lo) (b := hi) (by omega) (by omega)
    have hml : (lo + hi) / 2 < l.length := by omega
    have hk1 : lo <= (lo + hi) / 2 /\ (lo + hi) / 2 < hi := by omega
    generalize (lo + hi) / 2 = k at *
    have hg : l.getD k [] = l[k] := by simp [hml]
    simp [hlt, hm, hml, cP, pS]
    refine call_f (w_impl_CompareRows l[k] row) (by simp [pS]) rfl fun hs1 hh1 => ?_
    simp at hh1
    rw [hg] at h3
    by_cases hc : cmpL l[k] row < 0
    · rw [if_pos hc] at h3
      have hw := wr1 (i := k) (by omega)
      simp [hc, hw]
      exact back (k + 1, hi) ⟨by simp; omega, h2, h3⟩ (by simp; omega) rfl (by simp <;> omega) (by simp [cP, pS]) (by simp)
    · rw [if_neg hc] at h3
      simp [hc]
      exact back (lo, k) ⟨by simp; omega, by simp; omega, h3⟩ (by simp; omega) rfl (by simp <;> omega) (by simp [cP, pS]) (by simp)
  · rw [bs_ge hlt] at h3
    subst h3
    by_cases hk : placeK l row < l.length
    · simp [hlt, hk, cP, pS]
      refine call_f (w_impl_CompareRows l[placeK l row] row) (by simp [pS]) rfl fun hs1 hh1 => ?_
      simp [placeB, hk]
    · simp [hlt, hk, placeB]
theorem w_spec_l5Place (r : PReln) (row : List Int) (hb : r.rows.length <= 4294967296) : VC Tryz.prog 103 [.agg ((eReln r).map .d), .d (pS cI row)] (fun _ v => v = .tup [.d (.int .i64 (placeK r.rows row)), .d (.bool (placeB r.rows row))]) := by
  obtain ⟨ar, l⟩ := r
  simp only at hb ⊢
  refine VC.ofL EP s103 (by kernel_rfl) Tryz.func103 (by rfl) (by kernel_rfl) (by simp [Tryz.f103]) (by simp [Tryz.f103]) s103_ok fun B hl => ?_
  simp [eReln, pS, cP, cI, maxLen] at hl
  simp [Tryz.f103, eReln, cI, cP, pS]
  refine loop_rule (X := Nat × Nat) (fun p => p.1 <= p.2 /\ p.2 <= l.length /\ bs l row p.1 p.2 = placeK l row) (fun p => [(2, .ptr 2 0 0), (1, .d (.pl (row.map cI))), (6, .d (.int .i64 p.1)), (7, .d (.int .i64 p.2))]) (fun _ => [(2, some (.box [.d (.int .i64 ar), .d (.pl (l.map (cP cI)))]))]) (fun p => p.2 - p.1) (0, l.length) (by simp; rfl) (by simp [cI]) (by simp [cP, pS, cI]) ?_
  rintro ⟨lo, hi⟩ hs t m ⟨h1, h2, h3⟩ hh
  simp only at h1 h2 h3
  by_cases hlt : lo < hi
  · rw [bs_lt hlt] at h3
    have hm := mid64 (a := lo) (b := hi) (by omega) (by omega)
    have hml : (lo + hi) / 2 < l.length := by omega
    have hk1 : lo <= (lo + hi) / 2 /\ (lo + hi) / 2 < hi := by omega
    generalize (lo + hi) / 2 = k at *
    have hg : l.getD k [] = l[k] := by simp [hml]
    simp [hlt, hm, hml, cP, pS]
    refine call_f (w_spec_CompareRows l[k] row) (by simp [pS]) rfl fun hs1 hh1 => ?_
    simp at hh1
    rw [hg] at h3
    by_cases hc : cmpL l[k] row < 0
    · rw [if_pos hc] at h3
      have hw := wr1 (i := k) (by omega)
      simp [hc, hw]
      exact back (k + 1, hi) ⟨by simp; omega, h2, h3⟩ (by simp; omega) rfl (by simp <;> omega) (by simp [cP, pS]) (by simp [cP, pS])
    · rw [if_neg hc] at h3
      simp [hc]
      exact back (lo, k) ⟨by simp; omega, by simp; omega, h3⟩ (by simp; omega) rfl (by simp <;> omega) (by simp [cP, pS]) (by simp [cP, pS])
  · rw [bs_ge hlt] at h3
    subst h3
    by_cases hk : placeK l row < l.length
    · simp [hlt, hk, cP, pS]
      refine call_f (w_spec_CompareRows l[placeK l row] row) (by simp [pS]) rfl fun hs1 hh1 => ?_
      simp [placeB, hk]
    · simp [hlt, hk, placeB]
theorem w_impl_IsValidCounted (c : PCnt) : VC Tryz.prog 104 [.agg ((eCnt c).map .d)] (fun _ v => v = .d (.bool (cntsOk c))) := by
  obtain ⟨ar, l, cs⟩ := c
  refine VC.ofL EP s104 (by kernel_rfl) Tryz.func104 (by rfl) (by kernel_rfl) (by simp [Tryz.f104]) (by simp [Tryz.f104]) s104_ok fun B hl => ?_
  simp [eCnt, pS, cP, cI, maxLen] at hl
  simp [Tryz.f104, eCnt, cI, cP, pS]
  refine call_f (w_impl_rowsValid ar l) (by simp [pS, cP, cI]) rfl fun hs0 hh0 => ?_
  simp at hh0
  cases h1 : rowsOk ar l
  · simp [cntsOk, h1]
  by_cases h2 : cs.length = l.length
  case neg => simp [h2, cntsOk, show ¬ l.length = cs.length by omega]
  simp [h2]
  refine loop_rule (X := Nat) (fun i => i <= cs.length /\ (cs.take i).all cntOk = true) (fun i => [(21, .d (.pl (cs.map cI))), (22, .d (.int .i64 cs.length)), (23, .d (.int .i64 i))]) (fun _ => []) (fun i => cs.length - i) 0 (by simp) (by simp [cI, h2]) (by simp) ?_
  intro i hs t m hi hh
  by_cases hlt : i < cs.length
  · have hwi := wr1 (i := i) (by omega)
    have hst := all_step (p := cntOk) hlt
    rw [hi.2, Bool.true_and] at hst
    have hbad : cntOk cs[i] = false -> cntsOk ⟨ar, l, cs⟩ = false := fun h => by simp only [cntsOk]; rw [all_bad (p := cntOk) hlt h]; simp
    by_cases h0 : cs[i] = 0
    · simp [hlt, cI, h0, hbad (by simp [cntOk, h0])]
    simp [hlt, cI, h0]
    refine call_f (w_impl_within cs[i] (-1000000) 1000000) (by simp) rfl fun hs1 hh1 => ?_
    simp at hh1
    cases hc : inR cs[i] (-1000000) 1000000
    · simp [hbad (by simp [cntOk, hc])]
    · simp [hwi]
      exact back (i + 1) ⟨by omega, List.all_eq_true.1 (hst.trans (by simp [cntOk, hc, h0]))⟩ (by omega) rfl (by simp <;> omega) (by simp [cI]) (by simp)
  · have hd : cs.all cntOk = true := all_done (by omega) hi.2
    have hf : cntsOk ⟨ar, l, cs⟩ = true := by simp only [cntsOk]; rw [hd]; simp [h1, h2]
    simp [hlt, hf]
theorem w_spec_IsValidCounted (c : PCnt) : VC Tryz.prog 58 [.agg ((eCnt c).map .d)] (fun _ v => v = .d (.bool (cntsOk c))) := by
  obtain ⟨ar, l, cs⟩ := c
  refine VC.ofL EP s58 (by kernel_rfl) Tryz.func58 (by rfl) (by kernel_rfl) (by simp [Tryz.f58]) (by simp [Tryz.f58]) s58_ok fun B hl => ?_
  simp [eCnt, pS, cP, cI, maxLen] at hl
  by_cases h2 : l.length = cs.length
  case neg => simp [Tryz.f58, eCnt, cI, cP, pS, h2, cntsOk]
  simp [Tryz.f58, eCnt, cI, cP, pS, h2]
  refine call_f (w_spec_IsValidRelation ⟨ar, l⟩) (by simp [eReln, pS, cP, cI]) rfl fun hs0 hh0 => ?_
  simp at hh0
  cases h1 : rowsOk ar l
  · simp [cntsOk, h1]
  simp
  refine loop_rule (X := Nat) (fun i => i <= cs.length /\ (cs.take i).all cntOk = true) (fun i => [(1, .ptr 1 0 0), (3, .d (.int .i64 i))]) (fun _ => [(1, some (.box [.d (.int .i64 ar), .d (.pl (l.map (cP cI))), .d (.pl (cs.map cI))]))]) (fun i => cs.length - i) 0 (by simp) (by simp) (by simp [cI, cP, pS]) ?_
  intro i hs t m hi hh
  by_cases hlt : i < cs.length
  · have hwi := wr1 (i := i) (by omega)
    have hst := all_step (p := cntOk) hlt
    rw [hi.2, Bool.true_and] at hst
    have hbad : cntOk cs[i] = false -> cntsOk ⟨ar, l, cs⟩ = false := fun h => by simp only [cntsOk]; rw [all_bad (p := cntOk) hlt h]; simp
    by_cases h0 : cs[i] = 0
    · simp [hlt, cI, h0, hbad (by simp [cntOk, h0])]
    simp [hlt, cI, h0]
    refine call_f (w_spec_l1In cs[i] (-1000000) 1000000) (by simp) rfl fun hs1 hh1 => ?_
    simp at hh1
    cases hc : inR cs[i] (-1000000) 1000000
    · simp [hbad (by simp [cntOk, hc])]
    · simp [hwi]
      exact back (i + 1) ⟨by omega, List.all_eq_true.1 (hst.trans (by simp [cntOk, hc, h0]))⟩ (by omega) rfl (by simp <;> omega) (by simp [cI]) (by simp [cI])
  · have hd : cs.all cntOk = true := all_done (by omega) hi.2
    have hf : cntsOk ⟨ar, l, cs⟩ = true := by simp only [cntsOk]; rw [hd]; simp [h1, h2]
    simp [hlt, hf]
end Go.Proofs.YtmgphabeodaokaaGreat
namespace Go.Proofs.YtmgphabeodaokaaGreat
open Go.Vs Go.Proofs Go
set_option maxRecDepth 100000
set_option maxHeartbeats 1000000
section
attribute [local simp] plI_id plStr_id map_plI map_plStr pS cP cI cStr cU8 cB
theorem w_spec_l7Find (l : List Int) (v : Int) : VC Tryz.prog 131 [.d (pS cI l), .d (.int .i64 v)] (fun _ r => r = .d (.int .i64 (idxL l v))) := by
  refine VC.ofL EP s131 (by kernel_rfl) Tryz.func131 (by rfl) (by kernel_rfl) (by simp [Tryz.f131]) (by simp [Tryz.f131]) s131_ok fun B hl => ?_
  simp [pS, maxLen] at hl
  simp [Tryz.f131, ]
  refine loop_rule (X := Nat) (fun i => i <= l.length /\ AllTo (fun x => !(x == v)) l i) (fun i => [(0, .d (.pl (l.map cI))), (1, .d (.int .i64 v)), (5, .d (.int .i64 i))]) (fun _ => []) (fun i => l.length - i) 0 ⟨by simp, allTo_zero⟩ (by simp) (by simp) ?_
  intro i hs t m hi hh
  by_cases hlt : i < l.length
  · have hwi := wr1 (i := i) (by omega)
    by_cases he : l[i] = v
    · have hx := idxL_at hi.2 hlt he
      simp [hlt, he, hx, ]
    · simp [hlt, he, hwi, ]
      exact back (i + 1) ⟨by omega, allTo_step hi.2 hlt (by simp [he])⟩ (by omega) rfl (by simp <;> omega) (by simp) (by simp)
  · have hx := (idxL_no (allTo_done hi.2 (by omega))).2
    simp [hlt, hx]
theorem w_impl_indexOf (l : List Int) (v : Int) : VC Tryz.prog 94 [.d (pS cI l), .d (.int .i64 v)] (fun _ r => r = .d (.int .i64 (idxL l v))) := by
  refine VC.ofL EP s94 (by kernel_rfl) Tryz.func94 (by rfl) (by kernel_rfl) (by simp [Tryz.f94]) (by simp [Tryz.f94]) s94_ok fun B hl => ?_
  simp [pS, maxLen] at hl
  simp [Tryz.f94, ]
  refine loop_rule (X := Nat) (fun i => i <= l.length /\ AllTo (fun x => !(x == v)) l i) (fun i => [(1, .d (.int .i64 v)), (7, .d (.pl (l.map cI))), (8, .d (.int .i64 l.length)), (9, .d (.int .i64 i))]) (fun _ => []) (fun i => l.length - i) 0 ⟨by simp, allTo_zero⟩ (by simp) (by simp) ?_
  intro i hs t m hi hh
  by_cases hlt : i < l.length
  · have hwi := wr1 (i := i) (by omega)
    by_cases he : l[i] = v
    · have hx := idxL_at hi.2 hlt he
      simp [hlt, he, hx, ]
    · simp [hlt, he, hwi, ]
      exact back (i + 1) ⟨by omega, allTo_step hi.2 hlt (by simp [he])⟩ (by omega) rfl (by simp <;> omega) (by simp) (by simp)
  · have hx := (idxL_no (allTo_done hi.2 (by omega))).2
    simp [hlt, hx]
theorem w_impl_hasInt (l : List Int) (v : Int) : VC Tryz.prog 129 [.d (pS cI l), .d (.int .i64 v)] (fun _ r => r = .d (.bool (l.contains v))) := by
  refine VC.ofL EP s129 (by kernel_rfl) Tryz.func129 (by rfl) (by kernel_rfl) (by simp [Tryz.f129]) (by simp [Tryz.f129]) s129_ok fun B hl => ?_
  rw [<- idxL_ge]
  simp [Tryz.f129, ]
  refine call_f (w_impl_indexOf l v) (by simp) rfl fun hs1 hh1 => ?_
  simp
theorem w_spec_ContainsVariable (a : PAtom) (v : Int) : VC Tryz.prog 130 [.agg ((eAtom a).map V.d), .d (.int .i64 v)] (fun _ r => r = .d (.bool (a.vars.contains v))) := by
  refine VC.ofL EP s130 (by kernel_rfl) Tryz.func130 (by rfl) (by kernel_rfl) (by simp [Tryz.f130]) (by simp [Tryz.f130]) s130_ok fun B hl => ?_
  obtain ⟨nm, l⟩ := a
  simp [pS, maxLen, eAtom] at hl
  simp [Tryz.f130, eAtom]
  refine loop_rule (X := Nat) (fun i => i <= l.length /\ AllTo (fun x => !(x == v)) l i) (fun i => [(1, .d (.int .i64 v)), (2, .ptr 2 0 0), (5, .d (.int .i64 i))]) (fun _ => [(2, some (.box [.d (.str nm), .d (.pl (l.map cI))]))]) (fun i => l.length - i) 0 ⟨by simp, allTo_zero⟩ (by simp) (by simp) ?_
  intro i hs t m hi hh
  by_cases hlt : i < l.length
  · have hwi := wr1 (i := i) (by omega)
    by_cases he : l[i] = v
    · have hx : v ∈ l := he ▸ List.getElem_mem hlt
      simp [hlt, he, hx, ]
    · simp [hlt, he, hwi, ]
      exact back (i + 1) ⟨by omega, allTo_step hi.2 hlt (by simp [he])⟩ (by omega) rfl (by simp <;> omega) (by simp) (by simp)
  · have hx := (idxL_no (allTo_done hi.2 (by omega))).1
    simp [hlt, hx]
theorem w_impl_ContainsVariable (a : PAtom) (v : Int) : VC Tryz.prog 96 [.agg ((eAtom a).map V.d), .d (.int .i64 v)] (fun _ r => r = .d (.bool (a.vars.contains v))) := by
  refine VC.ofL EP s96 (by kernel_rfl) Tryz.func96 (by rfl) (by kernel_rfl) (by simp [Tryz.f96]) (by simp [Tryz.f96]) s96_ok fun B hl => ?_
  simp [Tryz.f96, eAtom]
  refine call_f (w_impl_hasInt a.vars v) (by simp) rfl fun hs1 hh1 => ?_
  simp
theorem w_impl_isLetters (s : List UInt8) : VC Tryz.prog 139 [.d (.str s), .d (.int .i64 4)] (fun _ r => r = .d (.bool (nameOk s))) := by
  refine VC.ofL EP s139 (by kernel_rfl) Tryz.func139 (by rfl) (by kernel_rfl) (by simp [Tryz.f139]) (by simp [Tryz.f139]) s139_ok fun B hl => ?_
  by_cases h1 : (s.length : Int) < 1
  · have : s = [] := List.length_eq_zero_iff.1 (by omega)
    subst this
    simp [Tryz.f139, nameOk_len]
  by_cases h4 : (4 : Int) < s.length
  · have : nameOk s = false := nameOk_len (by omega)
    simp [Tryz.f139, h1, h4, this]
  have hlen : 1 <= s.length /\ s.length <= 4 := by omega
  simp [Tryz.f139, h1, h4]
  refine loop_rule (X := Nat) (fun i => i <= s.length /\ AllTo lowB s i) (fun i => [(0, .d (.str s)), (5, .d (.int .i64 i))]) (fun _ => []) (fun i => s.length - i) 0 ⟨by simp, allTo_zero⟩ (by simp) (by simp) ?_
  intro i hs t m hi hh
  by_cases hlt : i < s.length
  · have hwi := wr1 (i := i) (by omega)
    by_cases ha : ((s[i]).toNat : Int) < 97
    · have hbad := nameOk_bad (all_bad (p := lowB) hlt (lowB_lo ha))
      simp [hlt, ha, hbad, ]
    · by_cases hz : (122 : Int) < ((s[i]).toNat : Int)
      · have hbad := nameOk_bad (all_bad (p := lowB) hlt (lowB_hi hz))
        simp [hlt, ha, hz, hbad, ]
      · simp [hlt, ha, hz, hwi, ]
        exact back (i + 1) ⟨by omega, allTo_step hi.2 hlt (lowB_ok ha hz)⟩ (by omega) rfl (by simp <;> omega) (by simp) (by simp)
  · have hd := allTo_done hi.2 (by omega)
    have hd2 : nameOk s = true := by rw [nameOk_ok hd, decide_eq_true hlen]
    simp [hlt, hd2]
theorem w_impl_IsValidName (s : List UInt8) : VC Tryz.prog 127 [.d (.str s)] (fun _ r => r = .d (.bool (nameOk s))) := by
  refine VC.ofL EP s127 (by kernel_rfl) Tryz.func127 (by rfl) (by kernel_rfl) (by simp [Tryz.f127]) (by simp [Tryz.f127]) s127_ok fun B hl => ?_
  simp [Tryz.f127, ]
  refine call_f (w_impl_isLetters s) (by simp) rfl fun hs1 hh1 => ?_
  simp
theorem w_spec_IsValidName (s : List UInt8) (hb : s.length <= maxLen) : VC Tryz.prog 119 [.d (.str s)] (fun _ r => r = .d (.bool (nameOk s))) := by
  refine VC.ofL EP s119 (by kernel_rfl) Tryz.func119 (by rfl) (by kernel_rfl) (by simp [Tryz.f119]) (by simp [Tryz.f119]) s119_ok fun B hl => ?_
  simp only [maxLen] at hb
  simp [Tryz.f119, ]
  refine loop_rule (X := Nat) (fun i => i <= s.length /\ AllTo lowB s i) (fun i => [(0, .d (.str s)), (3, .d (.int .i64 i))]) (fun _ => []) (fun i => s.length - i) 0 ⟨by simp, allTo_zero⟩ (by simp) (by simp) ?_
  intro i hs t m hi hh
  by_cases hlt : i < s.length
  · have hwi := wr1 (i := i) (by omega)
    by_cases ha : ((s[i]).toNat : Int) < 97
    · have hbad := nameOk_bad (all_bad (p := lowB) hlt (lowB_lo ha))
      simp [hlt, ha, hbad, ]
    · by_cases hz : (122 : Int) < ((s[i]).toNat : Int)
      · have hbad := nameOk_bad (all_bad (p := lowB) hlt (lowB_hi hz))
        simp [hlt, ha, hz, hbad, ]
      · simp [hlt, ha, hz, hwi, ]
        exact back (i + 1) ⟨by omega, allTo_step hi.2 hlt (lowB_ok ha hz)⟩ (by omega) rfl (by simp <;> omega) (by simp) (by simp)
  · have hd := allTo_done hi.2 (by omega)
    simp [hlt, ]
    refine call_f (w_spec_l1In s.length 1 4) (by simp) rfl fun hs1 hh1 => ?_
    have e : inR (s.length : Int) 1 4 = decide (1 <= s.length /\ s.length <= 4) := by
      simp only [inR, <- Bool.decide_and]; congr 1; apply propext; omega
    rw [e, nameOk_ok hd]
    simp
theorem w_impl_isSetOf (l : List Int) (n : Int) : VC Tryz.prog 126 [.d (pS cI l), .d (.int .i64 n)] (fun _ r => r = .d (.bool (setOf l n))) := by
  refine VC.ofL EP s126 (by kernel_rfl) Tryz.func126 (by rfl) (by kernel_rfl) (by simp [Tryz.f126]) (by simp [Tryz.f126]) s126_ok fun B hl => ?_
  simp [pS, maxLen] at hl
  simp [Tryz.f126, ]
  refine loop_rule (X := Nat) (SetTo l n) (fun i => [(0, .d (.pl (l.map cI))), (1, .d (.int .i64 n)), (7, .d (.pl (l.map cI))), (8, .d (.int .i64 l.length)), (9, .d (.int .i64 i))]) (fun _ => []) (fun i => l.length - i) 0 .zero (by simp) (by simp) ?_
  intro i hs t m hi hh
  have hil := hi.le
  by_cases hlt : i < l.length
  · have hwi := wr1 (i := i) (by omega)
    simp [hlt, ]
    refine call_f (w_impl_within l[i] 0 (IntKind.i64.wrap (n - 1))) (by simp) rfl fun hs1 hh1 => ?_
    simp at hh1
    cases h1 : inR l[i] 0 (IntKind.i64.wrap (n - 1))
    · simp [setOf_bad1 hlt h1]
    simp [hil, <- List.map_take, ]
    refine call_f (w_impl_hasInt (l.take i) l[i]) (by simp) rfl fun hs2 hh2 => ?_
    simp at hh2
    by_cases h2 : l[i] ∈ l.take i
    · simp [h2, setOf_bad2 hlt h2]
    simp [h2, hwi, ]
    exact back (i + 1) (hi.step hlt h1 h2) (by omega) rfl (by simp <;> omega) (by simp) (by simp)
  · have hd := hi.done (by omega)
    simp [hlt, hd]
end
end Go.Proofs.YtmgphabeodaokaaGreat
namespace Go.Proofs.YtmgphabeodaokaaGreat
open Go.Vs Go.Proofs Go
set_option maxRecDepth 100000
set_option maxHeartbeats 1000000
section
attribute [local simp] plI_id plStr_id map_plI map_plStr pS cP cI cStr cU8 cB eAtom
theorem w_spec_IsValidQuery (q : PQuery) (hst : ∀ a ∈ q.atoms, a.rel.length <= maxLen) : VC Tryz.prog 99 [.agg ((eQuery q).map V.d)] (fun _ r => r = .d (.bool (queryOk q))) := by
  refine VC.ofL EP s99 (by kernel_rfl) Tryz.func99 (by rfl) (by kernel_rfl) (by simp [Tryz.f99]) (by simp [Tryz.f99]) s99_ok fun B hl => ?_
  obtain ⟨n, ats, out⟩ := q
  simp only at hst
  simp [pS, maxLen, eQuery] at hl
  simp [Tryz.f99, s99_11, s99_26, s99_11, s99_26, eQuery]
  refine call_f (w_spec_l1In n 1 5) (by simp) rfl fun hs1 hh1 => ?_
  simp at hh1
  cases h1 : inR n 1 5
  · simp [queryOk_n (q := ⟨n, ats, out⟩) h1]
  have hn : 1 <= n /\ n <= 5 := by simpa [inR] using h1
  simp [s99_11, s99_26, eQuery]
  refine call_f (w_spec_l1In ats.length 1 4) (by simp) rfl fun hs2 hh2 => ?_
  simp at hh2
  cases h2 : inR (ats.length : Int) 1 4
  · simp [queryOk_a (q := ⟨n, ats, out⟩) h2]
  have ha4 : ats.length <= 4 := by simp [inR] at h2; omega
  by_cases h3 : n < out.length
  · have hso : setOf out n = false := by
      cases hs : setOf out n
      · rfl
      · have := setOf_len hn hs; omega
    simp [h3, queryOk_o (q := ⟨n, ats, out⟩) hso]
  have hrw : ∀ i (h : i < ats.length), ats[i].rel.length <= maxLen := fun i h => hst _ (List.getElem_mem h)
  have hvl : ∀ i (h : i < ats.length), ats[i].vars.length <= 9223372036854775807 := fun i h => (hl.1.2 _ (List.getElem_mem h))
  simp [h3]
  refine loop_rule (X := Nat) (AtI n ats) (fun i => [(1, .ptr 1 0 0), (3, .d (.int .i64 i))]) (fun _ => [(1, some (.box [.d (.int .i64 n), .d (.pl (ats.map eAtom)), .d (.pl (out.map cI))]))]) (fun i => ats.length - i) 0 .zero (by simp) (by simp) ?_
  intro i hs t m hi hh
  have hil := hi.le
  by_cases hlt : i < ats.length
  · have hwi := wr1 (i := i) (by omega)
    have hbad : atomOk n ats[i] = false -> queryOk ⟨n, ats, out⟩ = false := fun h => queryOk_at (q := ⟨n, ats, out⟩) hlt h
    simp [hlt, s99_11, s99_26, ]
    refine call_f (w_spec_IsValidName ats[i].rel (hrw i hlt)) (by simp) rfl fun hs3 hh3 => ?_
    simp at hh3
    cases h4 : nameOk ats[i].rel
    · simp [hbad (by simp only [atomOk, h4, Bool.false_and])]
    simp [hlt, s99_11, s99_26, ]
    refine call_f (w_spec_l1In ats[i].vars.length 1 5) (by simp) rfl fun hs4 hh4 => ?_
    simp at hh4
    cases h5 : inR (ats[i].vars.length : Int) 1 5
    · simp [hbad (by simp only [atomOk, h5, Bool.false_and, Bool.and_false])]
    simp [s99_11, s99_26, ]
    refine loop_rule (X := Nat) (AtK n ats[i].vars) (fun k => [(1, .ptr 1 0 0), (3, .d (.int .i64 i)), (4, .d (.int .i64 k))]) (fun _ => [(1, some (.box [.d (.int .i64 n), .d (.pl (ats.map eAtom)), .d (.pl (out.map cI))]))]) (fun k => ats[i].vars.length - k) 0 .zero (by simp) (by simp) ?_
    intro k hs t m hk hh
    have hkl := hk.le
    have hvi := hvl i hlt
    by_cases hkt : k < ats[i].vars.length
    · have hwk := wr1 (i := k) (by omega)
      cases h6 : inR ats[i].vars[k] 0 (IntKind.i64.wrap (n - 1))
      · have hq := hbad (atomOk_bad hkt h6)
        simp [hlt, hkt, s99_11, s99_26, ]
        refine call_f (VC.to (w_spec_l1In ats[i].vars[k] 0 (IntKind.i64.wrap (n - 1))) (show _ = V.d (.bool false) by rw [h6])) (by simp) rfl fun hs5 hh5 => ?_
        simp [hq]
      · refine anyQ fun Q => ?_
        simp [hlt, hkt, s99_11, s99_26, ]
        refine call_f (VC.to (w_spec_l1In ats[i].vars[k] 0 (IntKind.i64.wrap (n - 1))) (show _ = V.d (.bool true) by rw [h6])) (by simp) rfl fun hs5 hh5 => ?_
        simp at hh5
        simp [hwk, s99_11, s99_26, ]
        exact back (k + 1) (hk.step hkt h6) (by omega) rfl (by simp <;> omega) (by simp) (by simp)
    · have hao := atomOk_done hk (by omega) h4 h5
      simp [hlt, hkt, hwi, s99_11, s99_26, ]
      exact back (i + 1) (hi.step hlt hao) (by omega) rfl (by simp <;> omega) (by simp) (by simp)
  have hall := allTo_done hi.ok (by omega)
  simp [hlt, s99_11, s99_26, ]
  refine loop_rule (X := Nat) (UsTo n ats) (fun v => [(1, .ptr 1 0 0), (5, .d (.int .i64 v))]) (fun _ => [(1, some (.box [.d (.int .i64 n), .d (.pl (ats.map eAtom)), .d (.pl (out.map cI))]))]) (fun v => n.toNat - v) 0 .zero (by simp) (by simp) ?_
  intro v hs t m hv hh
  have hvn := hv.le
  by_cases hvt : v < n.toNat
  · have hwv := wr1 (i := v) (by omega)
    have hvt' : (v : Int) < n := by omega
    simp [hvt', s99_11, s99_26, ]
    refine loop_rule (X := Nat) (fun i => i <= ats.length) (fun i => [(1, .ptr 1 0 0), (5, .d (.int .i64 v)), (6, .d (.bool (hasTo ats v i))), (7, .d (.int .i64 i))]) (fun _ => [(1, some (.box [.d (.int .i64 n), .d (.pl (ats.map eAtom)), .d (.pl (out.map cI))]))]) (fun i => ats.length - i) 0 (by simp) (by simp [hasTo_zero]) (by simp) ?_
    intro i hs t m hi hh
    by_cases hlt : i < ats.length
    · have hwi := wr1 (i := i) (by omega)
      have hst := hasTo_step (v := (v : Int)) hlt
      refine anyQ fun Q => ?_
      cases h6 : hasTo ats v i
      · rw [h6, Bool.false_or] at hst
        simp [hlt, s99_11, s99_26, ]
        refine call_f (w_spec_ContainsVariable ats[i] v) (by simp) rfl fun hs5 hh5 => ?_
        simp at hh5
        simp only [List.contains_eq_mem] at hst
        simp [hwi, s99_11, s99_26, ]
        exact back (i + 1) (by omega) (by omega) rfl (by simp <;> omega) (by simp [hst]) (by simp)
      · rw [h6, Bool.true_or] at hst
        simp [hlt, hwi, s99_11, s99_26, ]
        exact back (i + 1) (by omega) (by omega) rfl (by simp <;> omega) (by simp [hst]) (by simp)
    · have hha := hasTo_all (l := ats) (v := (v : Int)) (i := i) (by omega)
      cases h7 : (varsIn ats).contains (v : Int)
      · rw [h7] at hha
        simp [hlt, hha, queryOk_u (q := ⟨n, ats, out⟩) (usesAll_bad hvt h7), s99_11, s99_26, ]
      · rw [h7] at hha
        simp [hlt, hha, hwv, s99_11, s99_26, ]
        exact back (v + 1) (hv.step hvt h7) (by omega) rfl (by simp <;> omega) (by simp) (by simp)
  have hus := hv.done (by omega)
  have hvt' : ¬ (v : Int) < n := by omega
  simp [hvt', s99_11, s99_26, ]
  refine loop_rule (X := Nat) (SetTo out n) (fun i => [(1, .ptr 1 0 0), (8, .d (.int .i64 i))]) (fun _ => [(1, some (.box [.d (.int .i64 n), .d (.pl (ats.map eAtom)), .d (.pl (out.map cI))]))]) (fun i => out.length - i) 0 .zero (by simp) (by simp) ?_
  intro i hs t m hi hh
  have hil := hi.le
  by_cases hlt : i < out.length
  · have hwi := wr1 (i := i) (by omega)
    simp [hlt, s99_11, s99_26, ]
    refine call_f (w_spec_l1In out[i] 0 (IntKind.i64.wrap (n - 1))) (by simp) rfl fun hs5 hh5 => ?_
    simp at hh5
    cases h6 : inR out[i] 0 (IntKind.i64.wrap (n - 1))
    · simp [queryOk_o (q := ⟨n, ats, out⟩) (setOf_bad1 hlt h6)]
    simp [hil, hlt, <- List.map_take, s99_11, s99_26, ]
    refine call_f (w_spec_l7Find (out.take i) out[i]) (by simp) rfl fun hs6 hh6 => ?_
    simp at hh6
    have hge := idxL_ge (out.take i) out[i]
    by_cases h7 : out[i] ∈ out.take i
    · have h8 : 0 <= idxL (out.take i) out[i] := by simpa [h7] using hge
      simp [h8, queryOk_o (q := ⟨n, ats, out⟩) (setOf_bad2 hlt h7)]
    · have h8 : ¬ 0 <= idxL (out.take i) out[i] := by simpa [h7] using hge
      simp [h8, hwi, s99_11, s99_26, ]
      exact back (i + 1) (hi.step hlt h6 h7) (by omega) rfl (by simp <;> omega) (by simp) (by simp)
  · have hd := hi.done (by omega)
    simp [hlt, queryOk_all (q := ⟨n, ats, out⟩) h1 h2 hd hall hus]
end
end Go.Proofs.YtmgphabeodaokaaGreat
namespace Go.Proofs.YtmgphabeodaokaaGreat
open Go.Vs Go.Proofs Go
set_option maxRecDepth 100000
set_option maxHeartbeats 1000000
section
attribute [local simp] plI_id plStr_id map_plI map_plStr pS cP cI cStr cU8 cB eAtom
theorem w_impl_IsValidQuery (q : PQuery) : VC Tryz.prog 88 [.agg ((eQuery q).map V.d)] (fun _ r => r = .d (.bool (queryOk q))) := by
  refine VC.ofL EP s88 (by kernel_rfl) Tryz.func88 (by rfl) (by kernel_rfl) (by simp [Tryz.f88]) (by simp [Tryz.f88]) s88_ok fun B hl => ?_
  obtain ⟨n, ats, out⟩ := q
  simp [pS, maxLen, eQuery] at hl
  simp [Tryz.f88, eQuery]
  refine call_f (w_impl_within n 1 5) (by simp) rfl fun hs1 hh1 => ?_
  simp at hh1
  cases h1 : inR n 1 5
  · simp [queryOk_n (q := ⟨n, ats, out⟩) h1]
  have hn : 1 <= n /\ n <= 5 := by simpa [inR] using h1
  obtain ⟨N, rfl⟩ : ∃ N : Nat, n = (N : Int) := ⟨n.toNat, by omega⟩
  simp [eQuery]
  refine call_f (w_impl_within ats.length 1 4) (by simp) rfl fun hs2 hh2 => ?_
  simp at hh2
  cases h2 : inR (ats.length : Int) 1 4
  · simp [queryOk_a (q := ⟨N, ats, out⟩) h2]
  have ha4 : ats.length <= 4 := by simp [inR] at h2; omega
  simp [eQuery]
  refine call_f (w_impl_isSetOf out N) (by simp) rfl fun hs3 hh3 => ?_
  simp at hh3
  cases h3 : setOf out N
  · simp [queryOk_o (q := ⟨N, ats, out⟩) h3]
  have hvl : ∀ i (h : i < ats.length), ats[i].vars.length <= 9223372036854775807 := fun i h => (hl.1.2 _ (List.getElem_mem h))
  have hL : LenOk 1 N := ⟨by omega, by simp only [maxLen]; omega⟩
  have hwN : IntKind.i64.wrap ((N : Int) - 1) = N - 1 := wrap64_of (by omega) (by omega)
  simp [hL, ]
  refine loop_rule (X := Nat) (AtI N ats) (fun i => [(3, .d (.int .i64 N)), (4, .own 31 0 N), (33, .d (.pl (ats.map eAtom))), (34, .d (.int .i64 ats.length)), (35, .d (.int .i64 i))])
    (fun i => [(31, some (.row 4 1 ((usedL N (varsIn (ats.take i))).map cB)))]) (fun i => ats.length - i) 0 .zero (by simp) (by simp [usedL_nil, varsIn]) ?_
  intro i hs t m hi hh
  have hil := hi.le
  by_cases hlt : i < ats.length
  · have hwi := wr1 (i := i) (by omega)
    have hbad : atomOk N ats[i] = false -> queryOk ⟨N, ats, out⟩ = false := fun h => queryOk_at (q := ⟨N, ats, out⟩) hlt h
    have hvs : varsIn (ats.take (i + 1)) = varsIn (ats.take i) ++ ats[i].vars := by
      rw [varsIn, List.take_succ_eq_append_getElem hlt, List.flatMap_append]; simp only [varsIn, List.flatMap_cons, List.flatMap_nil, List.append_nil]
    simp [hlt, ]
    refine call_f (w_impl_IsValidName ats[i].rel) (by simp) rfl fun hs3 hh3 => ?_
    simp at hh3
    cases h4 : nameOk ats[i].rel
    · simp [hbad (by simp only [atomOk, h4, Bool.false_and])]
    simp []
    refine call_f (w_impl_within ats[i].vars.length 1 5) (by simp) rfl fun hs4 hh4 => ?_
    simp at hh4
    cases h5 : inR (ats[i].vars.length : Int) 1 5
    · simp [hbad (by simp only [atomOk, h5, Bool.false_and, Bool.and_false])]
    simp []
    obtain ⟨us, hus⟩ : ∃ us, us = varsIn (ats.take i) := ⟨_, rfl⟩
    rw [<- hus] at hvs ⊢
    obtain ⟨vs, hvse⟩ : ∃ vs, vs = ats[i].vars := ⟨_, rfl⟩
    have hvi := hvl i hlt
    rw [<- hvse] at hvs hvi h5
    refine loop_rule (X := Nat) (AtK N vs) (fun k => [(3, .d (.int .i64 N)), (4, .own 31 0 N), (33, .d (.pl (ats.map eAtom))), (34, .d (.int .i64 ats.length)), (35, .d (.int .i64 i)), (51, .d (.pl (vs.map cI))), (52, .d (.int .i64 vs.length)), (53, .d (.int .i64 k))])
      (fun k => [(31, some (.row 4 1 ((usedL N (us ++ vs.take k)).map cB)))]) (fun k => vs.length - k) 0 .zero (by simp [hvse]) (by simp [hus]) ?_
    intro k hs t m hk hh
    have hkl := hk.le
    by_cases hkt : k < vs.length
    · have hwk := wr1 (i := k) (by omega)
      simp [hkt, ]
      refine call_f (w_impl_within vs[k] 0 (IntKind.i64.wrap ((N : Int) - 1))) (by simp) rfl fun hs5 hh5 => ?_
      simp at hh5
      cases h6 : inR vs[k] 0 (IntKind.i64.wrap ((N : Int) - 1))
      · have hq := hbad (atomOk_bad (k := k) (by rw [<- hvse]; exact hkt) (by simpa only [<- hvse] using h6))
        simp [hq]
      · have hst := hk.step hkt h6
        rw [hwN] at h6
        simp only [inR, Bool.and_eq_true, decide_eq_true_eq] at h6
        obtain ⟨p, hp⟩ : ∃ p : Nat, vs[k] = (p : Int) := ⟨vs[k].toNat, by omega⟩
        have hpN : p < N := by omega
        have hset : usedL N (us ++ vs.take (k + 1)) = (usedL N (us ++ vs.take k)).set p true := by
          rw [usedL_snoc hpN, List.append_assoc, List.take_succ_eq_append_getElem hkt, hp]
        simp [hp, hpN, hwk, ]
        exact back (k + 1) hst (by omega) rfl (by simp <;> omega) (by simp) (by simp [hset])
    · have hao := atomOk_done (n := N) (a := ats[i]) (k := k) (by rw [<- hvse]; exact hk) (by rw [<- hvse]; omega) h4 (by rw [<- hvse]; exact h5)
      have hd : vs.take k = vs := List.take_of_length_le (by omega)
      simp [hkt, hwi, hd, ]
      exact back (i + 1) (hi.step hlt hao) (by omega) rfl (by simp <;> omega) (by simp) (by simp [hvs])
  have hall := allTo_done hi.ok (by omega)
  have hd : ats.take i = ats := List.take_of_length_le (by omega)
  rw [hd]
  simp [hlt, ]
  have hu := usesAll_iff (n := (N : Int)) (l := ats)
  rw [Int.toNat_natCast] at hu
  refine loop_rule (X := Nat) (fun j => j <= N /\ AllTo id (usedL N (varsIn ats)) j) (fun j => [(67, .own 31 0 N), (68, .d (.int .i64 N)), (69, .d (.int .i64 j))]) (fun _ => [(31, some (.row 4 1 ((usedL N (varsIn ats)).map cB)))]) (fun j => N - j) 0 ⟨by simp, allTo_zero⟩ (by simp) (by simp) ?_
  intro j hs t m hj hh
  by_cases hjt : j < N
  · have hwj := wr1 (i := j) (by omega)
    have hjl : j < (usedL N (varsIn ats)).length := by simpa using hjt
    cases h6 : (usedL N (varsIn ats))[j]
    · have hq : queryOk ⟨N, ats, out⟩ = false := queryOk_u (q := ⟨N, ats, out⟩) (by rw [hu]; exact all_bad (p := id) hjl h6)
      simp [hjt, h6, hq, ]
    · simp [hjt, h6, hwj, ]
      exact back (j + 1) ⟨by omega, allTo_step hj.2 hjl h6⟩ (by omega) rfl (by simp <;> omega) (by simp) (by simp)
  · have hus : usesAll N ats = true := by rw [hu]; exact allTo_done hj.2 (by simp; omega)
    simp [hjt, queryOk_all (q := ⟨N, ats, out⟩) h1 h2 h3 hall hus]
end
end Go.Proofs.YtmgphabeodaokaaGreat
namespace Go.Proofs.YtmgphabeodaokaaGreat
open Go.Vs Go.Proofs Go
set_option maxRecDepth 100000
set_option maxHeartbeats 1000000
section
attribute [local simp] plI_id plStr_id map_plI map_plStr pS cP cI cStr cU8 cB eTab eReln
theorem w_impl_IsValidDatabase (d : PDb) : VC Tryz.prog 89 [.agg ((eDb d).map V.d)] (fun _ r => r = .d (.bool (dbOk d))) := by
  refine VC.ofL EP s89 (by kernel_rfl) Tryz.func89 (by rfl) (by kernel_rfl) (by simp [Tryz.f89]) (by simp [Tryz.f89]) s89_ok fun B hl => ?_
  obtain ⟨l⟩ := d
  by_cases h6 : (6 : Int) < l.length
  · have : dbOk ⟨l⟩ = false := by
      have : ¬ l.length <= 6 := by omega
      simp only [dbOk, this, decide_false, Bool.false_and]
    simp [Tryz.f89, s89_6, s89_6, eDb, h6, this]
  simp [Tryz.f89, s89_6, s89_6, eDb, h6]
  refine loop_rule (X := Nat) (DbTo l) (fun i => [(1, .ptr 1 0 0), (10, .d (.pl (l.map eTab))), (11, .d (.int .i64 l.length)), (12, .d (.int .i64 i))]) (fun _ => [(1, some (.box [.d (.pl (l.map eTab))]))]) (fun i => l.length - i) 0 .zero (by simp) (by simp) ?_
  intro i hs t m hi hh
  have hil := hi.le
  by_cases hlt : i < l.length
  case neg =>
    have hd := hi.done (by omega)
    simp [hlt, hd]
    omega
  have hwi := wr1 (i := i) (by omega)
  have hat := dbAt_eq hlt
  have hbad : dbAt l i = false -> dbOk ⟨l⟩ = false := dbOk_bad hlt
  obtain ⟨nm, ar, rows, hT⟩ : ∃ nm ar rows, l[i] = ⟨nm, ⟨ar, rows⟩⟩ := ⟨_, _, _, rfl⟩
  rw [hT] at hat
  simp only [tabOk] at hat
  simp [hlt, hT, s89_6, ]
  refine call_f (w_impl_IsValidName nm) (by simp) rfl fun hs1 hh1 => ?_
  simp at hh1
  cases h1 : nameOk nm
  · have hb := hbad (by rw [hat, h1]; simp)
    simp [hb, s89_6, ]
  by_cases h0 : i = 0
  · subst h0
    have hwi0 : IntKind.i64.wrap 1 = 1 := by simpa using hwi
    simp [hT, s89_6, ]
    refine call_f (w_impl_IsValidRelation ⟨ar, rows⟩) (by simp [eReln]) rfl fun hs2 hh2 => ?_
    simp at hh2
    cases h3 : rowsOk ar rows
    · have hb := hbad (by rw [hat, h3]; simp)
      simp [hb, s89_6, ]
    by_cases h4 : ar < 1
    · have hb := hbad (by rw [hat]; have : ¬ 1 <= ar := by omega
                          simp [this])
      simp [h4, hb, hT, s89_6, ]
    by_cases h5 : (16 : Int) < rows.length
    · have hb := hbad (by rw [hat]; have : ¬ rows.length <= 16 := by omega
                          simp [this])
      simp [h4, h5, hb, hT, s89_6, ]
    have hok : dbAt l 0 = true := by
      have a4 : 1 <= ar := by omega
      have a5 : rows.length <= 16 := by omega
      rw [hat, h1, h3]; simp [a4, a5]
    simp [h4, h5, hT, hwi0, s89_6, ]
    exact back 1 (hi.step hlt hok) (by omega) rfl (by simp <;> omega) (by simp) (by simp)
  · have h0' : 0 < i := by omega
    have hw : IntKind.i64.wrap ((i : Int) - 1) = ((i - 1 : Nat) : Int) := by rw [wrap64_of (by omega) (by omega)]; omega
    have hlt1 : i - 1 < l.length := by omega
    cases h2 : Op.bytesLess (l[i - 1]'(by omega)).name nm
    · have hb := hbad (by rw [hat, h2]; simp [h0])
      simp [h0, h0', hw, hlt1, hT, h2, hb, s89_6, ]
    simp [h0, h0', hw, hlt1, hT, h2, s89_6, ]
    refine call_f (w_impl_IsValidRelation ⟨ar, rows⟩) (by simp [eReln]) rfl fun hs2 hh2 => ?_
    simp at hh2
    cases h3 : rowsOk ar rows
    · have hb := hbad (by rw [hat, h3]; simp)
      simp [hb, s89_6, ]
    by_cases h4 : ar < 1
    · have hb := hbad (by rw [hat]; have : ¬ 1 <= ar := by omega
                          simp [this])
      simp [h4, hb, hT, s89_6, ]
    by_cases h5 : (16 : Int) < rows.length
    · have hb := hbad (by rw [hat]; have : ¬ rows.length <= 16 := by omega
                          simp [this])
      simp [h4, h5, hb, hT, s89_6, ]
    have hok : dbAt l i = true := by
      have a4 : 1 <= ar := by omega
      have a5 : rows.length <= 16 := by omega
      rw [hat, h1, h3]; simp [a4, a5, h2]
    simp [h4, h5, hT, hwi, s89_6, ]
    exact back (i + 1) (hi.step hlt hok) (by omega) rfl (by simp <;> omega) (by simp) (by simp)
theorem w_spec_IsValidDatabase (d : PDb) (hst : ∀ t ∈ d.tabs, t.name.length <= maxLen) : VC Tryz.prog 80 [.agg ((eDb d).map V.d)] (fun _ r => r = .d (.bool (dbOk d))) := by
  refine VC.ofL EP s80 (by kernel_rfl) Tryz.func80 (by rfl) (by kernel_rfl) (by simp [Tryz.f80]) (by simp [Tryz.f80]) s80_ok fun B hl => ?_
  obtain ⟨l⟩ := d
  simp [pS, maxLen, eDb] at hl
  simp only at hst
  simp [Tryz.f80, s80_5, s80_5, eDb]
  refine loop_rule (X := Nat) (DbTo l) (fun i => [(1, .ptr 1 0 0), (3, .d (.int .i64 i))]) (fun _ => [(1, some (.box [.d (.pl (l.map eTab))]))]) (fun i => l.length - i) 0 .zero (by simp) (by simp) ?_
  intro i hs t m hi hh
  have hil := hi.le
  by_cases hlt : i < l.length
  case neg =>
    have hd := hi.done (by omega)
    simp [hlt, hd]
    omega
  have hwi := wr1 (i := i) (by omega)
  have hat := dbAt_eq hlt
  have hbad : dbAt l i = false -> dbOk ⟨l⟩ = false := dbOk_bad hlt
  obtain ⟨nm, ar, rows, hT⟩ : ∃ nm ar rows, l[i] = ⟨nm, ⟨ar, rows⟩⟩ := ⟨_, _, _, rfl⟩
  rw [hT] at hat
  simp only [tabOk] at hat
  have hnl : nm.length <= maxLen := by have := hst l[i] (List.getElem_mem hlt); rwa [hT] at this
  simp [hlt, hT, s80_5, ]
  refine call_f (w_spec_IsValidName nm hnl) (by simp) rfl fun hs1 hh1 => ?_
  simp at hh1
  cases h1 : nameOk nm
  · have hb := hbad (by rw [hat, h1]; simp)
    simp [hb, s80_5, ]
  by_cases h0 : i = 0
  · subst h0
    have hwi0 : IntKind.i64.wrap 1 = 1 := by simpa using hwi
    simp [hT, s80_5, ]
    refine call_f (w_spec_IsValidRelation ⟨ar, rows⟩) (by simp [eReln]) rfl fun hs2 hh2 => ?_
    simp at hh2
    cases h3 : rowsOk ar rows
    · have hb := hbad (by rw [hat, h3]; simp)
      simp [hb, s80_5, ]
    by_cases h5 : (16 : Int) < rows.length
    · have hb := hbad (by rw [hat]; have : ¬ rows.length <= 16 := by omega
                          simp [this])
      simp [h5, hb, hT, s80_5, ]
    by_cases h4 : ar < 1
    · have hb := hbad (by rw [hat]; have : ¬ 1 <= ar := by omega
                          simp [this])
      simp [h4, h5, hb, hT, s80_5, ]
    have hok : dbAt l 0 = true := by
      have a4 : 1 <= ar := by omega
      have a5 : rows.length <= 16 := by omega
      rw [hat, h1, h3]; simp [a4, a5]
    simp [h4, h5, hT, hwi0, s80_5, ]
    exact back 1 (hi.step hlt hok) (by omega) rfl (by simp <;> omega) (by simp) (by simp)
  · have h0' : 0 < i := by omega
    have hw : IntKind.i64.wrap ((i : Int) - 1) = ((i - 1 : Nat) : Int) := by rw [wrap64_of (by omega) (by omega)]; omega
    have hlt1 : i - 1 < l.length := by omega
    cases h2 : Op.bytesLess (l[i - 1]'(by omega)).name nm
    · have hb := hbad (by rw [hat, h2]; simp [h0])
      simp [h0, h0', hw, hlt1, hT, h2, hb, s80_5, ]
    simp [h0, h0', hw, hlt1, hT, h2, s80_5, ]
    refine call_f (w_spec_IsValidRelation ⟨ar, rows⟩) (by simp [eReln]) rfl fun hs2 hh2 => ?_
    simp at hh2
    cases h3 : rowsOk ar rows
    · have hb := hbad (by rw [hat, h3]; simp)
      simp [hb, s80_5, ]
    by_cases h5 : (16 : Int) < rows.length
    · have hb := hbad (by rw [hat]; have : ¬ rows.length <= 16 := by omega
                          simp [this])
      simp [h5, hb, hT, s80_5, ]
    by_cases h4 : ar < 1
    · have hb := hbad (by rw [hat]; have : ¬ 1 <= ar := by omega
                          simp [this])
      simp [h4, h5, hb, hT, s80_5, ]
    have hok : dbAt l i = true := by
      have a4 : 1 <= ar := by omega
      have a5 : rows.length <= 16 := by omega
      rw [hat, h1, h3]; simp [a4, a5, h2]
    simp [h4, h5, hT, hwi, s80_5, ]
    exact back (i + 1) (hi.step hlt hok) (by omega) rfl (by simp <;> omega) (by simp) (by simp)
end
end Go.Proofs.YtmgphabeodaokaaGreat
namespace Go.Proofs.YtmgphabeodaokaaGreat
open Go.Vs Go.Proofs Go
set_option maxRecDepth 100000
set_option maxHeartbeats 1000000
theorem w_spec_l5Copy (r : PReln) (hb : r.rows.length <= 4294967296) (hb2 : ∀ x ∈ r.rows, x.length <= 4294967296) : VC Tryz.prog 100 [.agg ((eReln r).map .d)] (fun _ v => v = .agg ((eReln r).map .d)) := by
  obtain ⟨ar, l⟩ := r
  simp only at hb hb2
  refine VC.ofL EP s100 (by kernel_rfl) Tryz.func100 (by rfl) (by kernel_rfl) (by simp [Tryz.f100]) (by simp [Tryz.f100]) s100_ok fun B hl => ?_
  simp [Tryz.f100, s100_5, eReln]
  refine loop_ruleL (X := Nat) (fun i _ => i <= l.length) (fun i => [(1, .ptr 1 0 0), (2, .ptr 2 0 0), (3, .ptr 3 0 0), (4, .d (.int .i64 i))])
    (fun i => [(1, some (.box [.d (.int .i64 ar), .d (.pl (l.map (cP cI)))])), (2, some (.box [.d (.int .i64 0), .d (.sl none none [])])), (3, some (.box [.d (.int .i64 ar), .own 25 0 i])), (25, some (.row 28 1 ((l.take i).map (cP cI))))]) (fun i => l.length - i) ?_ ?_
  · refine (lead_box 3 1 25 28 1 [.d (.int .i64 ar), .d (.sl none none [])] (by omega) (by omega) (by omega) (by simp) rfl).bind ?_
    rintro _ rfl
    exact Lead.of ⟨0, by simp, rfl, rfl, Nat.le_refl _, by simp, by simp⟩
  · intro i hs t m hi hh
    by_cases hlt : i < l.length
    · have hwi := wr1 (i := i) (by omega)
      have hL : LenOk 24 (i + 1) := ⟨by omega, by simp only [maxLen]; omega⟩
      have hx := hb2 _ (List.getElem_mem hlt)
      have hL2 : LenOk 8 l[i].length := ⟨by omega, by simp only [maxLen]; omega⟩
      simp [hlt, hL, hL2, hwi, List.take_of_length_le, show min i l.length = i by omega, s100_5, ]
      refine back2 (i + 1) (by omega) (by omega) rfl (by simp <;> omega) (by simp) ?_
      simp
      rw [List.take_succ_eq_append_getElem (by simpa using hlt)]; simp
    · have hn : i = l.length := by omega
      subst hn
      simp [List.take_of_length_le]
theorem w_spec_CountedFromRelation (r : PReln) : VC Tryz.prog 50 [.agg ((eReln r).map .d)] (fun _ v => v = .tup [.agg ((eCnt (cntOf r)).map .d), .d (.bool (rowsOk r.ar r.rows))]) := by
  refine VC.ofL EP s50 (by kernel_rfl) Tryz.func50 (by rfl) (by kernel_rfl) (by simp [Tryz.f50]) (by simp [Tryz.f50]) s50_ok fun B hl => ?_
  simp [eReln, maxLen] at hl
  simp [Tryz.f50, eReln]
  refine call_f (w_spec_IsValidRelation r) (by simp [eReln]) rfl fun hs0 hh0 => ?_
  simp at hh0
  cases h1 : rowsOk r.ar r.rows
  · simp [cntOf, h1, eCnt]
  have hlen := rowsOk_len h1
  have hrow := rowsOk_row h1
  simp
  refine call_p (w_spec_l5Copy r (by omega) (fun x hx => by have := hrow x hx; omega)) (by simp [eReln]) fun hs1 hh1 _ => ?_
  simp at hh1
  simp [eReln]
  refine loop_ruleL (X := Nat) (fun i _ => i <= r.rows.length) (fun i => [(1, .ptr 1 0 0), (2, .ptr 2 0 0), (5, .ptr 5 0 0), (6, .d (.int .i64 i))])
    (fun i => [(1, some (.box [.d (.int .i64 r.ar), .d (.pl (r.rows.map (cP cI)))])), (2, some (.box [.d (.int .i64 0), .d (.sl none none []), .d (.sl none none [])])), (5, some (.box [.d (.int .i64 r.ar), .d (.pl (r.rows.map (cP cI))), .own 28 0 i])), (28, some (.row 3 1 ((List.replicate i 1).map cI)))]) (fun i => r.rows.length - i) ?_ ?_
  · refine (lead_box 5 2 28 3 1 [.d (.int .i64 r.ar), .d (.pl (r.rows.map (cP cI))), .d (.sl none none [])] (by omega) (by omega) (by omega) (by simp) rfl).bind ?_
    rintro _ rfl
    exact Lead.of ⟨0, by simp, rfl, rfl, Nat.le_refl _, by simp, by simp⟩
  · intro i hs t m hi hh
    by_cases hlt : i < r.rows.length
    · have hwi := wr1 (i := i) (by omega)
      have hL : LenOk 8 (i + 1) := ⟨by omega, by simp only [maxLen]; omega⟩
      simp [hlt, hL, hwi, ]
      refine back2 (i + 1) (by omega) (by omega) rfl (by simp <;> omega) (by simp) ?_
      simp [List.replicate_succ']
    · have hn : i = r.rows.length := by omega
      subst hn
      simp [cntOf, h1, eCnt, List.take_of_length_le]
end Go.Proofs.YtmgphabeodaokaaGreat
namespace Go.Proofs.YtmgphabeodaokaaGreat
open Go.Vs Go.Proofs Go
set_option maxRecDepth 100000
set_option maxHeartbeats 1000000
section
attribute [local simp] plI_id plStr_id map_plI map_plStr pS cP cI cStr cU8 cB
theorem q_impl_copyInts (l : List Int) (hb : l.length <= 4294967296) : VC Tryz.prog 92 [.d (pS cI l)] (fun _ r => r = .d (pS cI l)) := by
  refine VC.ofL EP s92 (by kernel_rfl) Tryz.func92 (by rfl) (by kernel_rfl) (by simp [Tryz.f92]) (by simp [Tryz.f92]) s92_ok fun B hl => ?_
  have hL : LenOk 8 l.length := ⟨by omega, by simp only [maxLen]; omega⟩
  simp [Tryz.f92, hL, List.take_of_length_le]
theorem q_impl_copyRows (l : List (List Int)) (hb : l.length <= 4294967296) (hb2 : ∀ r ∈ l, r.length <= 4294967296) : VC Tryz.prog 112 [.d (pS (cP cI) l)] (fun _ r => r = .d (pS (cP cI) l)) := by
  refine VC.ofL EP s112 (by kernel_rfl) Tryz.func112 (by rfl) (by kernel_rfl) (by simp [Tryz.f112]) (by simp [Tryz.f112]) s112_ok fun B hl => ?_
  simp [Tryz.f112, ]
  refine loop_ruleL (X := Nat) (fun i _ => i <= l.length) (fun i => [(3, .own 16 0 i), (6, .d (.pl (l.map (cP cI)))), (7, .d (.int .i64 l.length)), (8, .d (.int .i64 i))]) (fun i => [(16, some (.row 28 1 ((l.take i).map (cP cI))))]) (fun i => l.length - i) ?_ ?_
  · refine (lead_slot 3 16 28 1 (by omega) (by omega) (by simp)).bind ?_
    rintro _ rfl
    exact Lead.of ⟨0, by omega, rfl, rfl, Nat.le_refl _, by simp, by simp⟩
  intro i hs t m hi hh
  by_cases hlt : i < l.length
  · have hwi := wr1 (i := i) (by omega)
    have hL : LenOk 24 (i + 1) := ⟨by omega, by simp only [maxLen]; omega⟩
    have hmn : min i l.length = i := by omega
    have hst2 : List.take (i + 1) (List.map (cP cI) l) = List.take i (List.map (cP cI) l) ++ [cP cI l[i]] := by
      rw [List.take_succ_eq_append_getElem (by simpa using hlt)]; simp
    simp [hlt, ]
    refine call_p (q_impl_copyInts l[i] (hb2 _ (List.getElem_mem hlt))) (by simp) fun hs1 hh1 hl1 => ?_
    simp at hh1
    simp [hwi, hL, hmn, ]
    exact back2 (i + 1) (by omega) (by omega) rfl (by simp <;> omega) (by simp) (by simp [hst2])
  · have hn : i = l.length := by omega
    subst hn
    simp [List.take_of_length_le]
theorem q_impl_copyRelation (r : PReln) (hb : r.rows.length <= 4294967296) (hb2 : ∀ x ∈ r.rows, x.length <= 4294967296) : VC Tryz.prog 124 [.agg ((eReln r).map V.d)] (fun _ v => v = .agg ((eReln r).map V.d)) := by
  refine VC.ofL EP s124 (by kernel_rfl) Tryz.func124 (by rfl) (by kernel_rfl) (by simp [Tryz.f124]) (by simp [Tryz.f124]) s124_ok fun B hl => ?_
  simp [Tryz.f124, s124_1, s124_1, eReln]
  refine call_p (q_impl_copyRows r.rows hb hb2) (by simp) fun hs1 hh1 hl1 => ?_
  simp at hh1
  simp [s124_1, ]
theorem w_impl_ContainsRow (r : PReln) (row : List Int) (hb : r.rows.length <= 4294967296) : VC Tryz.prog 91 [.agg ((eReln r).map V.d), .d (pS cI row)] (fun _ v => v = .d (.bool (hasR r row))) := by
  refine VC.ofL EP s91 (by kernel_rfl) Tryz.func91 (by rfl) (by kernel_rfl) (by simp [Tryz.f91]) (by simp [Tryz.f91]) s91_ok fun B hl => ?_
  simp [Tryz.f91, eReln]
  refine call_f (w_impl_place r.rows row hb) (by simp) rfl fun hs1 hh1 => ?_
  simp at hh1
  simp []
  refine call_f (w_impl_IsValidRelation r) (by simp [eReln]) rfl fun hs2 hh2 => ?_
  simp at hh2
  cases h : rowsOk r.ar r.rows <;> simp [hasR, h]
theorem w_impl_LookupRelation (d : PDb) (nm : List UInt8) : VC Tryz.prog 84 [.agg ((eDb d).map V.d), .d (.str nm)] (fun _ v => v = .tup [.agg ((eReln (lkR d nm)).map V.d), .d (.bool (lkB d nm))]) := by
  refine VC.ofL EP s84 (by kernel_rfl) Tryz.func84 (by rfl) (by kernel_rfl) (by simp [Tryz.f84]) (by simp [Tryz.f84]) s84_ok fun B hl => ?_
  obtain ⟨l⟩ := d
  simp [Tryz.f84, eDb]
  refine call_f (w_impl_IsValidDatabase ⟨l⟩) (by simp [eDb]) rfl fun hs1 hh1 => ?_
  simp at hh1
  cases h1 : dbOk ⟨l⟩
  · obtain ⟨e1, e2⟩ := lk_no (nm := nm) h1
    simp [e1, e2, eReln]
  have hl6 := dbOk_len h1
  simp only at hl6
  simp
  refine loop_rule (X := Nat) (LkTo l nm) (fun i => [(1, .d (.str nm)), (2, .ptr 2 0 0), (4, .ptr 4 0 0), (11, .d (.pl (l.map eTab))), (12, .d (.int .i64 l.length)), (13, .d (.int .i64 i))]) (fun _ => [(2, some (.box [.d (.pl (l.map eTab))])), (4, some (.box [.d (.int .i64 0), .d (.sl none none [])]))]) (fun i => l.length - i) 0 .zero (by simp) (by simp) ?_
  intro i hs t m hi hh
  by_cases hlt : i < l.length
  · have hwi := wr1 (i := i) (by omega)
    have hr := tabOk_rel (dbOk_tab h1 (List.getElem_mem hlt))
    by_cases he : l[i].name = nm
    · obtain ⟨e1, e2⟩ := hi.found h1 hlt he
      simp [hlt, he, eTab, eReln, ]
      refine call_p (q_impl_copyRelation l[i].rel hr.1 hr.2) (by simp [eReln]) fun hs2 hh2 hl2 => ?_
      simp [e1, e2, eReln]
    · simp [hlt, he, hwi, eTab, eReln, ]
      exact back (i + 1) (hi.step hlt he) (by omega) rfl (by simp <;> omega) (by simp [eTab, eReln]) (by simp [eTab, eReln])
  · obtain ⟨e1, e2⟩ := hi.done (by omega)
    simp [hlt, e1, e2, eReln]
theorem w_impl_applicable (d : PDb) (x : PDelta) : VC Tryz.prog 90 [.agg ((eDb d).map V.d), .agg ((eDelta x).map V.d)] (fun _ v => v = .tup [.agg ((eReln (lkR d x.name)).map V.d), .d (.bool (fitB d x))]) := by
  refine VC.ofL EP s90 (by kernel_rfl) Tryz.func90 (by rfl) (by kernel_rfl) (by simp [Tryz.f90]) (by simp [Tryz.f90]) s90_ok fun B hl => ?_
  obtain ⟨nm, ⟨ia, il⟩, ⟨da, dl⟩⟩ := x
  simp [Tryz.f90, s90_3, eDb, eDelta, eReln]
  refine call_p (w_impl_LookupRelation d nm) (by simp [eDb]) fun hs1 hh1 hl1 => ?_
  simp at hh1
  obtain ⟨⟨ra, rl⟩, hr⟩ : ∃ r, r = lkR d nm := ⟨_, rfl⟩
  rw [<- hr]
  cases h1 : lkB d nm
  · simp [eReln, fitB, h1, s90_3, <- hr]
  simp [eReln]
  refine call_f (w_impl_IsValidRelation ⟨ia, il⟩) (by simp [eReln]) rfl fun hs2 hh2 => ?_
  simp at hh2
  cases h2 : rowsOk ia il
  · simp [eReln, fitB, h1, h2, s90_3, <- hr]
  simp [eReln]
  refine call_f (w_impl_IsValidRelation ⟨da, dl⟩) (by simp [eReln]) rfl fun hs3 hh3 => ?_
  simp at hh3
  cases h3 : rowsOk da dl
  · simp [eReln, fitB, h1, h2, h3, s90_3, <- hr]
  by_cases h4 : ia = ra
  case neg => simp [eReln, fitB, h1, h2, h3, h4, s90_3, <- hr]
  subst h4
  by_cases h5 : da = ia
  case neg => simp [eReln, fitB, h1, h2, h3, h5, s90_3, <- hr]
  subst h5
  simp [eReln, fitB, h1, h2, h3, s90_3, <- hr]
theorem w_spec_LookupRelation (d : PDb) (nm : List UInt8) (hst : ∀ t ∈ d.tabs, t.name.length <= maxLen) : VC Tryz.prog 49 [.agg ((eDb d).map V.d), .d (.str nm)] (fun _ v => v = .tup [.agg ((eReln (lkR d nm)).map V.d), .d (.bool (lkB d nm))]) := by
  refine VC.ofL EP s49 (by kernel_rfl) Tryz.func49 (by rfl) (by kernel_rfl) (by simp [Tryz.f49]) (by simp [Tryz.f49]) s49_ok fun B hl => ?_
  obtain ⟨l⟩ := d
  simp [pS, maxLen, eDb] at hl
  simp [Tryz.f49, eDb]
  refine loop_rule (X := Nat) (LkTo l nm) (fun i => [(1, .d (.str nm)), (2, .ptr 2 0 0), (4, .ptr 4 0 0), (6, .d (.int .i64 i))]) (fun _ => [(2, some (.box [.d (.pl (l.map eTab))])), (4, some (.box [.d (.int .i64 0), .d (.sl none none [])]))]) (fun i => l.length - i) 0 .zero (by simp) (by simp) ?_
  intro i hs t m hi hh
  by_cases hlt : i < l.length
  · have hwi := wr1 (i := i) (by omega)
    simp [hlt, ]
    refine call_f (w_spec_IsValidDatabase ⟨l⟩ hst) (by simp [eDb]) rfl fun hs1 hh1 => ?_
    simp at hh1
    cases h1 : dbOk ⟨l⟩
    · obtain ⟨e1, e2⟩ := lk_no (nm := nm) h1
      simp [e1, e2, eReln, ]
    have hr := tabOk_rel (dbOk_tab h1 (List.getElem_mem hlt))
    by_cases he : l[i].name = nm
    · obtain ⟨e1, e2⟩ := hi.found h1 hlt he
      simp [hlt, he, eTab, eReln, ]
      refine call_p (w_spec_l5Copy l[i].rel hr.1 hr.2) (by simp [eReln]) fun hs2 hh2 hl2 => ?_
      simp [e1, e2, eReln]
    · simp [hlt, he, hwi, eTab, eReln, ]
      exact back (i + 1) (hi.step hlt he) (by omega) rfl (by simp <;> omega) (by simp [eTab, eReln]) (by simp [eTab, eReln])
  · obtain ⟨e1, e2⟩ := hi.done (by omega)
    simp [hlt, e1, e2, eReln, ]
theorem w_spec_l26Fits (d : PDb) (x : PDelta) (hst : ∀ t ∈ d.tabs, t.name.length <= maxLen) : VC Tryz.prog 98 [.agg ((eDb d).map V.d), .agg ((eDelta x).map V.d)] (fun _ v => v = .d (.bool (fitB d x))) := by
  refine VC.ofL EP s98 (by kernel_rfl) Tryz.func98 (by rfl) (by kernel_rfl) (by simp [Tryz.f98]) (by simp [Tryz.f98]) s98_ok fun B hl => ?_
  obtain ⟨nm, ⟨ia, il⟩, ⟨da, dl⟩⟩ := x
  simp [Tryz.f98, eDb, eDelta, eReln]
  refine call_p (w_spec_LookupRelation d nm hst) (by simp [eDb]) fun hs1 hh1 hl1 => ?_
  simp at hh1
  obtain ⟨⟨ra, rl⟩, hr⟩ : ∃ r, r = lkR d nm := ⟨_, rfl⟩
  rw [<- hr]
  cases h1 : lkB d nm
  · simp [eReln, fitB, h1, <- hr]
  simp [eReln]
  refine call_f (w_spec_IsValidRelation ⟨ia, il⟩) (by simp [eReln]) rfl fun hs2 hh2 => ?_
  simp at hh2
  cases h2 : rowsOk ia il
  · simp [eReln, fitB, h1, h2, <- hr]
  simp [eReln]
  refine call_f (w_spec_IsValidRelation ⟨da, dl⟩) (by simp [eReln]) rfl fun hs3 hh3 => ?_
  simp at hh3
  cases h3 : rowsOk da dl
  · simp [eReln, fitB, h1, h2, h3, <- hr]
  by_cases h4 : ia = ra
  case neg => simp [eReln, fitB, h1, h2, h3, h4, <- hr]
  subst h4
  by_cases h5 : da = ia
  case neg => simp [eReln, fitB, h1, h2, h3, h5, <- hr]
  subst h5
  simp [eReln, fitB, h1, h2, h3, <- hr]
end
end Go.Proofs.YtmgphabeodaokaaGreat
namespace Go.Proofs.YtmgphabeodaokaaGreat
open Go.Vs Go.Proofs Go
set_option maxRecDepth 100000
set_option maxHeartbeats 1000000
section
attribute [local simp] plI_id plStr_id map_plI map_plStr pS cP cI cStr cU8 cB
theorem w_spec_Difference (a b : PReln) : VC Tryz.prog 66 [.agg ((eReln a).map V.d), .agg ((eReln b).map V.d)] (fun _ v => v = .tup [.agg ((eReln (difR a b)).map V.d), .d (.bool (difB a b))]) := by
  refine VC.ofL EP s66 (by kernel_rfl) Tryz.func66 (by rfl) (by kernel_rfl) (by simp [Tryz.f66]) (by simp [Tryz.f66]) s66_ok fun B hl => ?_
  obtain ⟨aa, al⟩ := a
  obtain ⟨ba, bl⟩ := b
  simp [Tryz.f66, s66_7, s66_9, eReln]
  refine call_f (w_spec_IsValidRelation ⟨aa, al⟩) (by simp [eReln]) rfl fun hs1 hh1 => ?_
  simp at hh1
  cases h1 : rowsOk aa al
  · simp [difR, difB, h1, eReln]
  simp
  refine call_f (w_spec_IsValidRelation ⟨ba, bl⟩) (by simp [eReln]) rfl fun hs2 hh2 => ?_
  simp at hh2
  cases h2 : rowsOk ba bl
  · simp [difR, difB, h1, h2, eReln]
  by_cases h3 : aa = ba
  case neg => simp [difR, difB, h1, h2, h3, eReln]
  subst h3
  have hdb : difB ⟨aa, al⟩ ⟨aa, bl⟩ = true := by simp [difB, h1, h2]
  have hdr : difR ⟨aa, al⟩ ⟨aa, bl⟩ = ⟨aa, difL al bl⟩ := by simp only [difR, hdb, if_true]
  rw [hdb, hdr]
  have hal := rowsOk_len h1
  have hbl := rowsOk_len h2
  have hrow := rowsOk_row h1
  simp
  refine loop_ruleL (X := Nat) (fun i _ => i <= al.length) (fun i => [(2, .ptr 2 0 0), (3, .ptr 3 0 0), (4, .ptr 4 0 0), (6, .ptr 6 0 0), (7, .d (.int .i64 i))])
    (fun i => [(2, some (.box [.d (.int .i64 aa), .d (.pl (al.map (cP cI)))])), (3, some (.box [.d (.int .i64 aa), .d (.pl (bl.map (cP cI)))])), (4, some (.box [.d (.int .i64 0), .d (.sl none none [])])), (6, some (.box [.d (.int .i64 aa), .own 58 0 (difL (al.take i) bl).length])), (58, some (.row 28 1 ((difL (al.take i) bl).map (cP cI))))]) (fun i => al.length - i) ?_ ?_
  · refine (lead_box 6 1 58 28 1 [.d (.int .i64 aa), .d (.sl none none [])] (by omega) (by omega) (by omega) (by simp) rfl).bind ?_
    rintro _ rfl
    exact Lead.of ⟨0, by omega, rfl, rfl, Nat.le_refl _, by simp, by simp [difL]⟩
  intro i hs t m hi hh
  by_cases hlt : i < al.length
  · have hwi := wr1 (i := i) (by omega)
    have hst := difL_step (b := bl) hlt
    have hdl := difL_len (al.take i) bl
    rw [List.length_take] at hdl
    have hL1 : LenOk 8 al[i].length := by
      have := hrow _ (List.getElem_mem hlt)
      exact ⟨by omega, by simp only [maxLen]; omega⟩
    have hL2 : LenOk 24 ((difL (al.take i) bl).length + 1) := ⟨by omega, by simp only [maxLen]; omega⟩
    simp [hlt, s66_7, s66_9, ]
    refine call_f (w_spec_l5Place ⟨aa, bl⟩ al[i] (by show bl.length <= _; omega)) (by simp [eReln]) rfl fun hs3 hh3 => ?_
    simp at hh3
    cases h4 : placeB bl al[i]
    · rw [h4] at hst
      simp only [Bool.false_eq_true, if_false] at hst
      simp [hlt, hwi, hL1, hL2, List.take_of_length_le, s66_7, s66_9, ]
      exact back2 (i + 1) (by omega) (by omega) rfl (by simp <;> omega) (by simp) (by simp [hst])
    · rw [h4] at hst
      simp only [if_true, List.append_nil] at hst
      simp [hwi, s66_7, s66_9, ]
      exact back2 (i + 1) (by omega) (by omega) rfl (by simp <;> omega) (by simp) (by simp [hst])
  · have hn : i = al.length := by omega
    subst hn
    simp [List.take_of_length_le]
theorem w_spec_NormalizeDelta (d : PDb) (x : PDelta) (hst : ∀ t ∈ d.tabs, t.name.length <= maxLen) : VC Tryz.prog 46 [.agg ((eDb d).map V.d), .agg ((eDelta x).map V.d)] (fun _ v => v = .tup [.agg ((eDelta (norP d x)).map V.d), .d (.bool (fitB d x))]) := by
  refine VC.ofL EP s46 (by kernel_rfl) Tryz.func46 (by rfl) (by kernel_rfl) (by simp [Tryz.f46]) (by simp [Tryz.f46]) s46_ok fun B hl => ?_
  simp [Tryz.f46, eDb, eDelta, eReln]
  refine call_f (w_spec_l26Fits d x hst) (by simp [eDb, eDelta, eReln]) rfl fun hs1 hh1 => ?_
  simp at hh1
  cases h1 : fitB d x
  · simp [norP, h1, eDelta, eReln, ]
  obtain ⟨e1, e2⟩ := nor_dif h1
  have e3 : norP d x = ⟨x.name, ⟨(lkR d x.name).ar, norI (lkR d x.name) x.ins.rows⟩, ⟨(lkR d x.name).ar, norD (lkR d x.name) x.ins x.del.rows⟩⟩ := by simp only [norP, h1, if_true]
  obtain ⟨r, hr⟩ : ∃ r, r = lkR d x.name := ⟨_, rfl⟩
  simp []
  refine call_p (w_spec_LookupRelation d x.name hst) (by simp [eDb]) fun hs2 hh2 hl2 => ?_
  simp at hh2
  rw [<- hr] at e1 e2 e3 ⊢
  simp [eReln, ]
  refine call_p (w_spec_Difference x.ins r) (by simp [eReln]) fun hs3 hh3 hl3 => ?_
  simp at hh3
  rw [e1]
  simp [eReln, ]
  refine call_p (w_spec_Difference x.del x.ins) (by simp [eReln]) fun hs4 hh4 hl4 => ?_
  simp at hh4
  obtain ⟨go, hgo⟩ : ∃ go, go = difR x.del x.ins := ⟨_, rfl⟩
  rw [<- hgo] at e2 ⊢
  simp [eReln, ]
  refine call_p (w_spec_Difference go r) (by simp [eReln]) fun hs5 hh5 hl5 => ?_
  simp at hh5
  obtain ⟨nt, hnt⟩ : ∃ nt, nt = difR go r := ⟨_, rfl⟩
  rw [<- hnt] at e2 ⊢
  simp [eReln, ]
  refine call_p (w_spec_Difference go nt) (by simp [eReln]) fun hs6 hh6 hl6 => ?_
  rw [e2, e3]
  simp [eReln, eDelta, ]
end
end Go.Proofs.YtmgphabeodaokaaGreat
namespace Go.Proofs.YtmgphabeodaokaaGreat
open Go.Vs Go.Proofs Go
set_option maxRecDepth 100000
set_option maxHeartbeats 1000000
theorem w_impl_copyInts (a : Ints) (ha : okS okI a) (hb : a.xs.length <= 4294967296) :
   VC Tryz.prog 92 [.d (dSl cI a)] (fun n r => ∃ y : Sl Int, r = .d (dSl cI y) /\ plS plI y = plS plI a /\ okS okI y /\ Good (cS cI y) (whS whI y) n) := by
  refine VC.of E s92 (by kernel_rfl) Tryz.func92 (by rfl) (by kernel_rfl) (by simp [Tryz.f92]) (by simp [Tryz.f92]) s92_ok fun B => ?_
  have hL : LenOk 8 a.xs.length := ⟨by omega, by simp only [maxLen]; omega⟩
  simp [Tryz.f92, dSl, hL, cI]
  intro γ hs' h1 hg
  obtain ⟨q1, q2⟩ := gam_at hg (k := 3) (T := 3) (sz := 1) (es := a.xs.map cI) (by simp [cI])
  have q3 := gam_row hg (k := 3) (T := 3) (sz := 1) (es := a.xs.map cI) (by simp [cI])
  clear hg
  refine ⟨⟨γ 3, some (3, 1), a.xs⟩, ⟨⟨rfl, rfl, by simp [List.take_of_length_le]⟩, rfl, ha, good_row (fun g hg => (q1 g hg).1) (by simpa using q2) q3 ⟨by simp, by simp⟩ (by simp [whI])⟩⟩
theorem w_impl_copyRows (a : Sl Ints) (ha : okS (okS okI) a) (hb : a.xs.length <= 4294967296) (hb2 : ∀ r ∈ a.xs, r.xs.length <= 4294967296) :
   VC Tryz.prog 112 [.d (dSl (cS cI) a)] (fun n r => ∃ y : Sl Ints, r = .d (dSl (cS cI) y) /\ plS (plS plI) y = plS (plS plI) a /\ okS (okS okI) y /\ Good (cS (cS cI) y) (whS (whS whI) y) n) := by
  refine VC.of E s112 (by kernel_rfl) Tryz.func112 (by rfl) (by kernel_rfl) (by simp [Tryz.f112]) (by simp [Tryz.f112]) s112_ok fun B => ?_
  simp [Tryz.f112, dSl]
  refine loop_ruleL (X := Nat × List (Sl Int)) (fun p h => p.1 <= a.xs.length /\ p.2.length = p.1 /\ p.2.map (plS plI) = (a.xs.map (plS plI)).take p.1 /\ (∀ y ∈ p.2, okS okI y) /\ GoodL (cS cI) (whS whI) B h p.2)
    (fun p => [(3, .own 16 0 p.1), (6, .d (.sl a.id a.T (a.xs.map (cS cI)))), (7, .d (.int .i64 a.xs.length)), (8, .d (.int .i64 p.1))]) (fun p => [(16, some (.row 28 1 (p.2.map (cS cI))))]) (fun p => a.xs.length - p.1) ?_ ?_
  · refine (lead_slot 3 16 28 1 (by omega) (by omega) (by simp)).bind ?_
    rintro _ rfl
    exact Lead.of ⟨(0, []), ⟨by simp, rfl, by simp, by simp, GoodL.nil⟩, rfl, rfl, Nat.le_refl _, by simp, by simp⟩
  · rintro ⟨i, ys⟩ hs t m ⟨hi, hyl, hpl, hok, hgd⟩ hh
    simp only at hi hyl hpl hok hgd
    by_cases hlt : i < a.xs.length
    · have hwi := wr1 (i := i) (by omega)
      have hmem : a.xs[i] ∈ a.xs := List.getElem_mem _
      have hL : LenOk 24 (i + 1) := ⟨by omega, by simp only [maxLen]; omega⟩
      simp [cS, hlt]
      refine call_some (w_impl_copyInts a.xs[i] (ha.2 _ hmem) (hb2 _ hmem)) rfl (by simp) fun n hs' r hn hn' hp hr => ?_
      obtain ⟨y, rfl, hy1, hy2, hy3⟩ := hp
      simp at hn
      have hr' : ∀ g ∈ idsL (cS cI y), g < hs' := fun g hg => hr g (by rw [idsL_cS] at hg; exact hg)
      simp [cS, dSl, hyl, hL, hwi]
      refine back2 (i + 1, ys ++ [y]) ⟨by omega, by simp [hyl], ?_, ?_, GoodL.snoc hgd (by omega) hn' hy3 hr'⟩ (by simp; omega) rfl (by simp <;> omega) (by simp) (by simp [cS, dSl])
      · simp only [List.map_append, hpl, List.map_cons, List.map_nil, hy1]
        rw [List.take_succ_eq_append_getElem (by simpa using hlt)]; simp
      · intro y' hy'
        rcases List.mem_append.1 hy' with h | h
        · exact hok y' h
        · rw [List.mem_singleton.1 h]; exact hy2
    · have hn : i = a.xs.length := by omega
      subst hn
      simp [hyl]
      intro γ hs' h1 hg
      obtain ⟨q1, q2⟩ := gam_at hg (k := 16) (T := 28) (sz := 1) (es := ys.map (cS cI)) (by simp)
      have q3 := gam_row hg (k := 16) (T := 28) (sz := 1) (es := ys.map (cS cI)) (by simp)
      clear hg
      refine ⟨⟨γ 16, some (28, 1), ys⟩, ⟨rfl, rfl, by simp [List.take_of_length_le, hyl]⟩, by rw [List.take_of_length_le (by simp)] at hpl; exact hpl, ⟨by simp only [maxLen]; show ys.length <= _; omega, hok⟩, good_row (fun g hg => (q1 g hg).1) (by simpa using q2) q3 ⟨hgd.nd, hgd.lo⟩ hgd.wh⟩
theorem w_impl_copyCounted (a : Cnt) (ha : okCnt a) (hb : a.rows.xs.length <= 4294967296) (hb2 : ∀ r ∈ a.rows.xs, r.xs.length <= 4294967296) (hb3 : a.cs.xs.length <= 4294967296) :
   VC Tryz.prog 78 [.agg ((cCnt a).map V.d)] (fun n r => ∃ y : Cnt, r = .agg ((cCnt y).map V.d) /\ plCnt y = plCnt a /\ okCnt y /\ Good (cCnt y) (whCnt y) n) := by
  refine VC.of E s78 (by kernel_rfl) Tryz.func78 (by rfl) (by kernel_rfl) (by simp [Tryz.f78]) (by simp [Tryz.f78]) s78_ok fun B => ?_
  simp [Tryz.f78, s78_1, cCnt, cS, cI]
  refine call_some (w_impl_copyRows a.rows ha.2.1 hb hb2) rfl (by simp) fun n1 hs1 r1 hn1 hm1 hp1 hr1 => ?_
  obtain ⟨y1, rfl, p1, k1, G1⟩ := hp1
  have u1 : ∀ g ∈ idsL (cS (cS cI) y1), g < hs1 := fun g hg => hr1 g (by rw [idsL_cS] at hg; exact hg)
  simp at hn1
  simp [cS, cI, s78_1, ]
  refine call_some (w_impl_copyInts a.cs ha.2.2 hb3) rfl (by simp) fun n2 hs2 r2 hn2 hm2 hp2 hr2 => ?_
  obtain ⟨y2, rfl, p2, k2, G2⟩ := hp2
  simp at hn2
  simp [cS, cI, s78_1, ]
  refine ⟨⟨a.ar, y1, y2⟩, by simp, by simp only [plCnt, p1, p2], ⟨trivial, k1, k2⟩, ?_⟩
  have K1 : Good (cI a.ar ++ cS (cS cI) y1) (whI a.ar /\ whS (whS whI) y1) B := Good.app (good_I B a.ar) (G1.le (by omega)) (fun g h h' => by simp [cI, idsL, D.ids] at h)
  have K2 : Good (cI a.ar ++ cS (cS cI) y1 ++ cS cI y2) ((whI a.ar /\ whS (whS whI) y1) /\ whS whI y2) B := Good.app K1 (G2.le (by omega)) (fun g h h' => by
    have h2 := G2.lo g h'
    rw [idsL_app] at h
    rcases List.mem_append.1 h with h | h
    · simp [cI, idsL, D.ids] at h
    · have h1 := u1 g h; omega)
  exact ⟨K2.nd, K2.lo, K2.wh.1.1, K2.wh.1.2, K2.wh.2⟩
theorem t_impl_NormalizeDelta (d : Db) (x : Delta) (hd : okDb d) (hx : okDelta x) : VC Tryz.prog 36 [.agg ((cDb d).map V.d), .agg ((cDelta x).map V.d)]
   (fun n r => ∃ y : Delta, r = .tup [.agg ((cDelta y).map V.d), .d (.bool (fitB (plDb d) (plDelta x)))] /\ plDelta y = norP (plDb d) (plDelta x) /\ okDelta y /\ Good (cDelta y) (whDelta y) n) := by
  refine VC.of E s36 (by kernel_rfl) Tryz.func36 (by rfl) (by kernel_rfl) (by simp [Tryz.f36]) (by simp [Tryz.f36]) s36_ok fun B => ?_
  obtain ⟨nm, ⟨ia, ⟨iid, iT, il⟩⟩, ⟨da, ⟨did, dT, dl⟩⟩⟩ := x
  obtain ⟨X, hX⟩ : ∃ X, X = plDelta ⟨nm, ⟨ia, ⟨iid, iT, il⟩⟩, ⟨da, ⟨did, dT, dl⟩⟩⟩ := ⟨_, rfl⟩
  have hXn : X.name = nm := by rw [hX]; rfl
  have hXi : X.ins = ⟨ia, il.map (plS plI)⟩ := by rw [hX]; rfl
  have hXd : X.del = ⟨da, dl.map (plS plI)⟩ := by rw [hX]; rfl
  rw [<- hX]
  simp [Tryz.f36, s36_9, s36_15, s36_9, s36_15, cDb, cDelta, cReln, cStr, cS, cI, dSl]
  refine call_p (w_impl_applicable (plDb d) X) (by simp [hX, eDb, plDb, er_Tab, eDelta, plDelta, eReln, plReln, plStr, plI, pS, cP, cI, cStr, plS, erLL_map er_cI, erLL_map (er_cS er_cI), erLL_map er_cTab, map_plI]) fun hs1 hh1 hl1 => ?_
  simp at hh1
  obtain ⟨⟨ra, rl⟩, hr⟩ : ∃ r, r = lkR (plDb d) X.name := ⟨_, rfl⟩
  rw [<- hr]
  cases h1 : fitB (plDb d) X
  · simp [eReln, s36_9, s36_15, ]
    exact ⟨⟨[], ⟨0, nilS⟩, ⟨0, nilS⟩⟩, by simp [nilS], by simp [norP, h1, plDelta, plReln, plStr, plI, nilS, plS], ⟨by simp [okStr], ⟨trivial, ok_nilS⟩, ⟨trivial, ok_nilS⟩⟩, good_Delta0 B⟩
  simp [eReln, cI, pS, cP, s36_9, s36_15, ]
  have h1' := h1
  simp only [fitB, Bool.and_eq_true, decide_eq_true_eq] at h1'
  obtain ⟨⟨⟨⟨g1, g2⟩, g3⟩, g4⟩, g5⟩ := h1'
  have g0 := lk_ok g1
  rw [<- hr] at g0
  rw [hXi] at g2
  rw [hXd] at g3
  simp only at g0 g2 g3
  have hrl := rowsOk_len g0
  have hil := rowsOk_len g2
  have hdl := rowsOk_len g3
  have hil' : il.length <= 4000 := by simpa using hil
  have hdl' : dl.length <= 4000 := by simpa using hdl
  have hi5 : ∀ y ∈ il, y.xs.length <= 4294967296 := fun y hy => by
    have := rowsOk_row g2 (plS plI y) (List.mem_map_of_mem hy)
    simp only [plS, List.length_map] at this; omega
  have hd5 : ∀ y ∈ dl, y.xs.length <= 4294967296 := fun y hy => by
    have := rowsOk_row g3 (plS plI y) (List.mem_map_of_mem hy)
    simp only [plS, List.length_map] at this; omega
  refine loop_ruleL (X := Nat × List Ints) (NorI (norI ⟨ra, rl⟩) (il.map (plS plI)) B) (fun p => [(3, .ptr 3 0 0), (4, .ptr 4 0 0), (6, .ptr 6 0 0), (8, .ptr 8 0 0), (33, .d (.sl iid iT (il.map (cS cI)))), (34, .d (.int .i64 il.length)), (35, .d (.int .i64 p.1))])
    (fun p => [(3, some (.box [.d (.str nm), .d (.int .i64 ia), .d (.sl iid iT (il.map (cS cI))), .d (.int .i64 da), .d (.sl did dT (dl.map (cS cI)))])), (4, some (.box [.d (.str []), .d (.int .i64 0), .d (.sl none none []), .d (.int .i64 0), .d (.sl none none [])])), (6, some (.box [.d (.int .i64 ra), .d (.pl (rl.map (cP cI)))])),
      (8, some (.box [.d (.str nm), .d (.int .i64 ra), .own 49 0 p.2.length, .d (.int .i64 ra), .d (.sl none none [])])), (49, some (.row 28 1 (p.2.map (cS cI))))]) (fun p => il.length - p.1) ?_ ?_
  · refine (lead_box 8 2 49 28 1 [.d (.str nm), .d (.int .i64 ra), .d (.sl none none []), .d (.int .i64 ra), .d (.sl none none [])] (by omega) (by omega) (by omega) (by simp) rfl).bind ?_
    rintro _ rfl
    exact Lead.of ⟨(0, []), .zero (by simp [norI]), rfl, rfl, Nat.le_refl _, by simp [dSl], by simp [cP, cI]⟩
  rintro ⟨i, ys⟩ hs t m hI hh
  have hile := hI.le
  simp only [List.length_map] at hile
  have hyl : ys.length <= i := by
    have e := congrArg List.length hI.pl
    have h2 := norI_len ⟨ra, rl⟩ ((il.map (plS plI)).take i)
    simp only [List.length_map] at e
    rw [List.length_take] at h2
    omega
  by_cases hlt : i < il.length
  · have hwi := wr1 (i := i) (by omega)
    have hlt' : i < (il.map (plS plI)).length := by simpa using hlt
    have hst := norI_step (r := ⟨ra, rl⟩) hlt'
    have hge : (il.map (plS plI))[i] = plS plI il[i] := by simp
    rw [hge] at hst
    have hmem := List.getElem_mem hlt
    have hL : LenOk 24 (ys.length + 1) := ⟨by omega, by simp only [maxLen]; omega⟩
    refine anyQ2 fun Q => ?_
    simp [hlt, cS, cI, s36_9, s36_15, ]
    refine call_f (w_impl_ContainsRow ⟨ra, rl⟩ (plS plI il[i]) (by show rl.length <= _; omega)) (by simp [eReln, pS, cP, cI, plS, erLL_map er_cI, map_plI, dSl]) rfl fun hs2 hh2 => ?_
    simp at hh2
    cases h2 : hasR ⟨ra, rl⟩ (plS plI il[i])
    · rw [h2] at hst
      simp only [Bool.false_eq_true, if_false] at hst
      simp [hlt, s36_9, s36_15, ]
      refine call_some (w_impl_copyInts il[i] (hx.2.1.2.2 _ hmem) (hi5 _ hmem)) (by simp [dSl]) (by simp) fun n3 hs3 r3 hn3 hm3 hp3 hr3 => ?_
      obtain ⟨y, rfl, hy1, hy2, hy3⟩ := hp3
      simp at hn3
      have hr3' : ∀ g ∈ idsL (cS cI y), g < hs3 := fun g hg => hr3 g (by rw [idsL_cS] at hg; exact hg)
      simp [cS, cI, dSl, hL, hwi, s36_9, s36_15, ]
      exact back2 (i + 1, ys ++ [y]) (hI.snoc hlt' (by rw [hst, hge]) (by rw [hy1, hge]) hy2 (by omega) hm3 hy3 hr3') (by simp only; omega) rfl (by simp <;> omega) (by simp) (by simp [cS, cI, dSl])
    · rw [h2] at hst
      simp only [if_true, List.append_nil] at hst
      simp [hwi, s36_9, s36_15, ]
      exact back2 (i + 1, ys) (hI.skip hlt' hst (by omega)) (by simp only; omega) rfl (by simp <;> omega) (by simp) (by simp [cS, cI, dSl])
  have hia : i = il.length := by omega
  have hpl1 : ys.map (plS plI) = norI ⟨ra, rl⟩ (il.map (plS plI)) := by
    have := hI.pl
    simp only at this
    rwa [List.take_of_length_le (by simp; omega)] at this
  simp [hlt, s36_9, s36_15, ]
  obtain ⟨H, hH⟩ : ∃ H, H = hs := ⟨_, rfl⟩
  have hhi : ∀ g ∈ idsLL (ys.map (cS cI)), g < H := fun g hg => by rw [hH]; exact hI.good.hi g hg
  have hHB : B <= H := by omega
  refine loop_ruleL (X := Nat × List Ints) (NorI (norD ⟨ra, rl⟩ X.ins) (dl.map (plS plI)) H) (fun p => [(3, .ptr 3 0 0), (4, .ptr 4 0 0), (6, .ptr 6 0 0), (8, .ptr 8 0 0), (55, .d (.sl did dT (dl.map (cS cI)))), (56, .d (.int .i64 dl.length)), (57, .d (.int .i64 p.1))])
    (fun p => [(3, some (.box [.d (.str nm), .d (.int .i64 ia), .d (.sl iid iT (il.map (cS cI))), .d (.int .i64 da), .d (.sl did dT (dl.map (cS cI)))])), (4, some (.box [.d (.str []), .d (.int .i64 0), .d (.sl none none []), .d (.int .i64 0), .d (.sl none none [])])), (6, some (.box [.d (.int .i64 ra), .d (.pl (rl.map (cP cI)))])),
      (8, some (.box [.d (.str nm), .d (.int .i64 ra), .own 49 0 ys.length, .d (.int .i64 ra), .own 77 0 p.2.length])), (49, some (.row 28 1 (ys.map (cS cI)))), (77, some (.row 28 1 (p.2.map (cS cI))))]) (fun p => dl.length - p.1) ?_ ?_
  · refine (lead_box 8 4 77 28 1 [.d (.str nm), .d (.int .i64 ra), .own 49 0 ys.length, .d (.int .i64 ra), .d (.sl none none [])] (by omega) (by omega) (by omega) (by simp) rfl).bind ?_
    rintro _ rfl
    exact Lead.of ⟨(0, []), .zero (by simp [norD]), rfl, rfl, Nat.le_refl _, by simp, by simp [cP, cI]⟩
  rintro ⟨k, zs⟩ hs t m hJ hh
  have hkle := hJ.le
  simp only [List.length_map] at hkle
  have hzl : zs.length <= k := by
    have e := congrArg List.length hJ.pl
    have h2 := norD_len ⟨ra, rl⟩ X.ins ((dl.map (plS plI)).take k)
    simp only [List.length_map] at e
    rw [List.length_take] at h2
    omega
  by_cases hkt : k < dl.length
  · have hwk := wr1 (i := k) (by omega)
    have hkt' : k < (dl.map (plS plI)).length := by simpa using hkt
    have hst := norD_step (r := ⟨ra, rl⟩) (s := X.ins) hkt'
    have hge : (dl.map (plS plI))[k] = plS plI dl[k] := by simp
    rw [hge] at hst
    have hmem := List.getElem_mem hkt
    have hL : LenOk 24 (zs.length + 1) := ⟨by omega, by simp only [maxLen]; omega⟩
    refine anyQ2 fun Q => ?_
    simp [hkt, cS, cI, s36_9, s36_15, ]
    refine call_f (w_impl_ContainsRow ⟨ra, rl⟩ (plS plI dl[k]) (by show rl.length <= _; omega)) (by simp [eReln, pS, cP, cI, plS, erLL_map er_cI, map_plI, dSl]) rfl fun hs2 hh2 => ?_
    simp at hh2
    cases h2 : hasR ⟨ra, rl⟩ (plS plI dl[k])
    · rw [h2, Bool.false_and] at hst
      simp only [Bool.false_eq_true, if_false, List.append_nil] at hst
      simp [hwk, s36_9, s36_15, ]
      exact back2 (k + 1, zs) (hJ.skip hkt' hst (by omega)) (by simp only; omega) rfl (by simp <;> omega) (by simp) (by simp [cS, cI, dSl])
    rw [h2, Bool.true_and] at hst
    simp [hkt, cS, cI, dSl, s36_9, s36_15, ]
    refine call_f (w_impl_ContainsRow X.ins (plS plI dl[k]) (by rw [hXi]; simp; omega)) (by simp [hXi, eReln, pS, cP, cI, plS, erLL_map er_cI, erLL_map (er_cS er_cI), map_plI, dSl]) rfl fun hs4 hh4 => ?_
    simp at hh4
    cases h4 : hasR X.ins (plS plI dl[k])
    · rw [h4] at hst
      simp only [Bool.not_false, if_true] at hst
      simp [hkt, s36_9, s36_15, ]
      refine call_some (w_impl_copyInts dl[k] (hx.2.2.2.2 _ hmem) (hd5 _ hmem)) (by simp [dSl]) (by simp) fun n3 hs3 r3 hn3 hm3 hp3 hr3 => ?_
      obtain ⟨y, rfl, hy1, hy2, hy3⟩ := hp3
      simp at hn3
      have hr3' : ∀ g ∈ idsL (cS cI y), g < hs3 := fun g hg => hr3 g (by rw [idsL_cS] at hg; exact hg)
      simp [cS, cI, dSl, hL, hwk, s36_9, s36_15, ]
      exact back2 (k + 1, zs ++ [y]) (hJ.snoc hkt' (by rw [hst, hge]) (by rw [hy1, hge]) hy2 (by omega) hm3 hy3 hr3') (by simp only; omega) rfl (by simp <;> omega) (by simp) (by simp [cS, cI, dSl])
    · rw [h4] at hst
      simp only [Bool.not_true, Bool.false_eq_true, if_false, List.append_nil] at hst
      simp [hwk, s36_9, s36_15, ]
      exact back2 (k + 1, zs) (hJ.skip hkt' hst (Nat.le_trans hh2 hh4)) (by simp only; omega) rfl (by simp <;> omega) (by simp) (by simp [cS, cI, dSl])
  have hpl2 : zs.map (plS plI) = norD ⟨ra, rl⟩ X.ins (dl.map (plS plI)) := by
    have := hJ.pl
    simp only at this
    rwa [List.take_of_length_le (by simp; omega)] at this
  simp [hkt, s36_9, s36_15, ]
  intro γ hs' h2' hg
  obtain ⟨q1, q2⟩ := gam_at hg (k := 49) (T := 28) (sz := 1) (es := ys.map (cS cI)) (by simp)
  obtain ⟨q3, q4⟩ := gam_at hg (k := 77) (T := 28) (sz := 1) (es := zs.map (cS cI)) (by simp)
  have r1 := gam_row hg (k := 49) (T := 28) (sz := 1) (es := ys.map (cS cI)) (by simp)
  have r2 := gam_row hg (k := 77) (T := 28) (sz := 1) (es := zs.map (cS cI)) (by simp)
  have r3 := gam_row2 hg (k := 49) (T := 28) (sz := 1) (es := ys.map (cS cI)) (k2 := 77) (T2 := 28) (sz2 := 1) (es2 := zs.map (cS cI)) (by simp) (by simp)
  have r4 := gam_row2 hg (k := 77) (T := 28) (sz := 1) (es := zs.map (cS cI)) (k2 := 49) (T2 := 28) (sz2 := 1) (es2 := ys.map (cS cI)) (by simp) (by simp)
  have r5 : ∀ g, γ 49 = some g -> γ 77 = some g -> False := fun g h h' => by
    have := hg.ne 49 77 (.row 28 1 (ys.map (cS cI))) (.row 28 1 (zs.map (cS cI))) g (by simp) (by simp) h h'
    omega
  clear hg
  have hp1 : ∀ l : List Ints, hpLL (l.map (cS cI)) = false := fun l => hpLL_map (fun a => by simp) _
  simp [hp1, List.take_of_length_le]
  refine ⟨⟨nm, ⟨ra, ⟨γ 49, some (28, 1), ys⟩⟩, ⟨ra, ⟨γ 77, some (28, 1), zs⟩⟩⟩, by simp, ?_, ⟨hx.1, ⟨trivial, ⟨by simp only [maxLen]; show ys.length <= _; omega, hI.ok⟩⟩, ⟨trivial, ⟨by simp only [maxLen]; show zs.length <= _; omega, hJ.ok⟩⟩⟩, ?_⟩
  · have e : norP (plDb d) X = ⟨X.name, ⟨ra, norI ⟨ra, rl⟩ X.ins.rows⟩, ⟨ra, norD ⟨ra, rl⟩ X.ins X.del.rows⟩⟩ := by
      simp only [norP, h1, if_true, <- hr]
    have e2 : plDelta ⟨nm, ⟨ra, ⟨γ 49, some (28, 1), ys⟩⟩, ⟨ra, ⟨γ 77, some (28, 1), zs⟩⟩⟩ = ⟨nm, ⟨ra, ys.map (plS plI)⟩, ⟨ra, zs.map (plS plI)⟩⟩ := rfl
    rw [e, e2, hXn, hXi, hXd, hpl1, hpl2, hXi]
  · have := good_Delta2 (nm := nm) (a1 := ra) (a2 := ra) (T1 := (28, 1)) (T2 := (28, 1)) hI.good.nd (hI.good.lo) hI.good.wh hJ.good.nd (fun g hg => by have := hJ.good.lo g hg; omega) hJ.good.wh
      (fun g hg hg' => by have a1 := hhi g hg; have a2 := hJ.good.lo g hg'; omega) (fun g h => ⟨(q1 g h).1, r1 g h, r3 g h⟩) (by simpa using q2) (fun g h => ⟨(q3 g h).1, r2 g h, r4 g h⟩) (by simpa using q4) r5
    exact this
end Go.Proofs.YtmgphabeodaokaaGreat
namespace Go.Proofs.YtmgphabeodaokaaGreat
open Go.Vs Go.Proofs Go
set_option maxRecDepth 100000
set_option maxHeartbeats 1000000
section
attribute [local simp] plI_id plStr_id map_plI map_plStr
theorem e_impl_copyInts (l : List Int) (hb : l.length <= 4294967296) :
   VC Tryz.prog 92 [.d (pS cI l)] (fun n r => ∃ y : Ints, r = .d (dSl cI y) /\ plS plI y = l /\ okS okI y /\ Good (cS cI y) (whS whI y) n) := by
  refine VC.of E s92 (by kernel_rfl) Tryz.func92 (by rfl) (by kernel_rfl) (by simp [Tryz.f92]) (by simp [Tryz.f92]) s92_ok fun B => ?_
  have hL : LenOk 8 l.length := ⟨by omega, by simp only [maxLen]; omega⟩
  simp [Tryz.f92, pS, hL, cI]
  intro γ hs' h1 hg
  obtain ⟨q1, q2⟩ := gam_at hg (k := 3) (T := 3) (sz := 1) (es := l.map cI) (by simp [cI])
  have q3 := gam_row hg (k := 3) (T := 3) (sz := 1) (es := l.map cI) (by simp [cI])
  clear hg
  have hp : hpLL (l.map cI) = false := hpLL_mapI l
  refine ⟨⟨γ 3, some (3, 1), l⟩, by simp [dSl, List.take_of_length_le, cI], by simp [plS], ⟨by simp only [maxLen]; omega, fun _ _ => trivial⟩, good_row (fun g hg => (q1 g hg).1) (by simpa using q2) q3 ⟨by simp, by simp⟩ (by simp [whI])⟩
theorem e_impl_copyRowsT (l : List (List Int)) (hb : l.length <= 4294967296) (hb2 : ∀ r ∈ l, r.length <= 4294967296) :
   VC Tryz.prog 112 [.d (pS (cP cI) l)] (fun n r => ∃ y : Sl Ints, r = .d (dSl (cS cI) y) /\ plS (plS plI) y = l /\ okS (okS okI) y /\ Good (cS (cS cI) y) (whS (whS whI) y) n /\ y.T = some (28, 1)) := by
  refine VC.of E s112 (by kernel_rfl) Tryz.func112 (by rfl) (by kernel_rfl) (by simp [Tryz.f112]) (by simp [Tryz.f112]) s112_ok fun B => ?_
  simp [Tryz.f112, pS]
  refine loop_ruleL (X := Nat × List Ints) (CopI (cS cI) (whS whI) (okS okI) (plS plI) l B) (fun p => [(3, .own 16 0 p.2.length), (6, .d (.pl (l.map (cP cI)))), (7, .d (.int .i64 l.length)), (8, .d (.int .i64 p.1))]) (fun p => [(16, some (.row 28 1 (p.2.map (cS cI))))]) (fun p => l.length - p.1) ?_ ?_
  · refine (lead_slot 3 16 28 1 (by omega) (by omega) (by simp)).bind ?_
    rintro _ rfl
    exact Lead.of ⟨(0, []), .zero, rfl, rfl, Nat.le_refl _, by simp, by simp⟩
  rintro ⟨i, ys⟩ hs t m hI hh
  have hle := hI.le
  have hyl := hI.len
  simp only at hle
  by_cases hlt : i < l.length
  · have hwi := wr1 (i := i) (by omega)
    have hL : LenOk 24 (ys.length + 1) := ⟨by omega, by simp only [maxLen]; omega⟩
    simp [hlt, cP, pS, ]
    refine call_some (e_impl_copyInts l[i] (hb2 _ (List.getElem_mem hlt))) (by simp [pS]) (by simp) fun n hs' r hn hn' hp hr => ?_
    obtain ⟨y, rfl, hy1, hy2, hy3⟩ := hp
    simp at hn
    have hr' : ∀ g ∈ idsL (cS cI y), g < hs' := fun g hg => hr g (by rw [idsL_cS] at hg; exact hg)
    simp [cS, dSl, hL, hwi, ]
    exact back2 (i + 1, ys ++ [y]) (hI.snoc hlt hy1 hy2 (by omega) hn' hy3 hr') (by simp only; omega) rfl (by simp <;> omega) (by simp [cP, pS]) (by simp [cS, dSl])
  · have hall := hI.all (by omega)
    simp [hlt, ]
    intro γ hs' h1 hg
    obtain ⟨q1, q2⟩ := gam_at hg (k := 16) (T := 28) (sz := 1) (es := ys.map (cS cI)) (by simp)
    have q3 := gam_row hg (k := 16) (T := 28) (sz := 1) (es := ys.map (cS cI)) (by simp)
    clear hg
    have hp : hpLL (ys.map (cS cI)) = false := hpLL_mapS ys
    refine ⟨⟨γ 16, some (28, 1), ys⟩, by simp [dSl, List.take_of_length_le], by simpa [plS] using hall, ⟨by simp only [maxLen]; show ys.length <= _; omega, hI.ok⟩, good_row (fun g hg => (q1 g hg).1) (by simpa using q2) q3 ⟨hI.good.nd, hI.good.lo⟩ hI.good.wh, rfl⟩
theorem e_impl_copyRows (l : List (List Int)) (hb : l.length <= 4294967296) (hb2 : ∀ r ∈ l, r.length <= 4294967296) :
   VC Tryz.prog 112 [.d (pS (cP cI) l)] (fun n r => ∃ y : Sl Ints, r = .d (dSl (cS cI) y) /\ plS (plS plI) y = l /\ okS (okS okI) y /\ Good (cS (cS cI) y) (whS (whS whI) y) n) :=
  (e_impl_copyRowsT l hb hb2).weak fun _ _ ⟨y, h1, h2, h3, h4, _⟩ => ⟨y, h1, h2, h3, h4⟩
theorem e_impl_copyRows0 : VC Tryz.prog 112 [.d (pS (cP cI) [])] (fun _ r => r = .d (.sl none none [])) := by
  refine VC.of E s112 (by kernel_rfl) Tryz.func112 (by rfl) (by kernel_rfl) (by simp [Tryz.f112]) (by simp [Tryz.f112]) s112_ok fun B => ?_
  simp [Tryz.f112, pS]
  refine loop_rule (X := Unit) (fun _ => True) (fun _ => [(3, .d (.sl none none [])), (6, .d (.pl [])), (7, .d (.int .i64 0)), (8, .d (.int .i64 0))]) (fun _ => []) (fun _ => 0) () trivial (by simp) (by simp) ?_
  intro i hs t m hi hh
  simp []
theorem e_impl_copyRelation (r : PReln) (hb : r.rows.length <= 4294967296) (hb2 : ∀ x ∈ r.rows, x.length <= 4294967296) :
   VC Tryz.prog 124 [.agg ((eReln r).map V.d)] (fun n v => ∃ y : Reln, v = .agg ((cReln y).map V.d) /\ plReln y = r /\ okReln y /\ Good (cReln y) (whReln y) n) := by
  refine VC.of E s124 (by kernel_rfl) Tryz.func124 (by rfl) (by kernel_rfl) (by simp [Tryz.f124]) (by simp [Tryz.f124]) s124_ok fun B => ?_
  simp [Tryz.f124, s124_1, s124_1, eReln, cI, cP]
  refine call_some (e_impl_copyRows r.rows hb hb2) (by simp [pS]) (by simp) fun n1 hs1 r1 hn1 hm1 hp1 hr1 => ?_
  obtain ⟨y, rfl, p1, k1, G1⟩ := hp1
  simp at hn1
  simp [s124_1, ]
  exact ⟨⟨r.ar, y⟩, by simp [cReln, cI, cS], by rw [plReln]; simp only; rw [p1]; rfl, ⟨trivial, k1⟩, good_Reln G1 (by omega)⟩
end
end Go.Proofs.YtmgphabeodaokaaGreat
namespace Go.Proofs.YtmgphabeodaokaaGreat
open Go.Vs Go.Proofs Go
set_option maxRecDepth 100000
set_option maxHeartbeats 1000000
theorem w_spec_l5Sort : ∀ (n : Nat) (l : List (List Int)), l.length <= n -> l.length <= 4294967296 -> VC Tryz.prog 133 [.d (pS (cP cI) l)] (fun _ r => r = .d (pS (cP cI) (srtU l))) := by
  intro n
  induction n with
  | zero =>
    intro l hn hb
    have : l = [] := List.length_eq_zero_iff.1 (by omega)
    subst this
    refine VC.ofL EP s133 (by kernel_rfl) Tryz.func133 (by rfl) (by kernel_rfl) (by simp [Tryz.f133]) (by simp [Tryz.f133]) s133_ok fun B hl => ?_
    simp [Tryz.f133, s133_13, srtU]
  | succ n ih =>
  intro l hn hb
  refine VC.ofL EP s133 (by kernel_rfl) Tryz.func133 (by rfl) (by kernel_rfl) (by simp [Tryz.f133]) (by simp [Tryz.f133]) s133_ok fun B hl => ?_
  by_cases h2 : l.length < 2
  · have e : srtU l = l := srtU_id (by
      match l, h2 with
      | [], _ => exact .nil
      | [_], _ => simp
      | _ :: _ :: _, h => simp only [List.length_cons] at h; omega)
    simp [Tryz.f133, s133_13, show ((l.length : Int) < 2) by omega, e]
  obtain ⟨k, hk⟩ : ∃ k, k = l.length / 2 := ⟨_, rfl⟩
  have hm : IntKind.i64.wrap ((l.length : Int) / 2) = (k : Int) := by rw [wrap64_of (by omega) (by omega)]; omega
  simp [Tryz.f133, s133_13, show ¬ ((l.length : Int) < 2) by omega, hm, show k <= l.length by omega]
  refine call_p (ih (l.take k) (by simp; omega) (by simp; omega)) (by simp [List.map_take]) fun hs1 hh1 _ => ?_
  simp at hh1
  simp [hm, show k <= l.length by omega, List.take_of_length_le]
  refine call_p (ih (l.drop k) (by simp; omega) (by simp; omega)) (by simp [List.map_drop]) fun hs2 hh2 _ => ?_
  simp at hh2
  simp
  have hst := MI.start l k
  generalize srtU (l.take k) = a0 at hst
  generalize srtU (l.drop k) = b0 at hst
  refine loop_rule (X := List (List Int) × List (List Int) × List (List Int)) (fun p => MI l p.1 p.2.1 p.2.2)
    (fun p => [(4, .d (.pl (p.1.map (cP cI)))), (5, .d (.pl (p.2.1.map (cP cI)))), (6, .own 24 0 p.2.2.length)]) (fun p => [(24, some (.row 28 1 (p.2.2.map (cP cI))))]) (fun p => p.1.length + p.2.1.length) (a0, b0, []) hst (by simp) (by simp) ?_
  rintro ⟨a, b, out⟩ hs t m hI hh
  simp only at hI
  have hlen := hI.len
  have hL24 : LenOk 24 1 := ⟨by omega, by simp only [maxLen]; omega⟩
  have hpa : ∀ a : List (List Int), (0 : Int) < (a.length : Int) + 1 := fun a => by omega
  have hpb : ∀ a : List (List Int), ¬ (a.length : Int) + 1 = 0 := fun a => by omega
  have hqa : (0 : Int) < 1 := by omega
  have hqb : ¬ (0 : Int) < -1 := by omega
  rcases a with _ | ⟨x, a⟩
  · rcases b with _ | ⟨y, b⟩
    · have hd := hI.done
      subst hd
      simp [List.take_of_length_le]
    · refine anyQ fun Q => ?_
      have hc0 : True := trivial
      have hI' := hI.swap
      have hL := hI'.left (by simp)
      rcases nil_or_snoc out with rfl | ⟨o, z, rfl⟩
      · simp [hc0, hpa, hpb, hqa, hqb, List.take_of_length_le, cP, hL24, s133_13, ]
        exact back ([], b, [y]) (MI.swap (hL.2 (by simp))) (by simp <;> omega) rfl (by simp <;> omega) (by simp) (by simp)
      · simp only [List.length_append, List.length_cons, List.length_nil] at hlen
        have hw : IntKind.i64.wrap (o.length : Int) = o.length := wrap64_of (by omega) (by omega)
        have hix : (o.map (cP cI) ++ [[D.pl (z.map cI)]])[o.length]? = some [D.pl (z.map cI)] := by rw [List.getElem?_append_right (by simp)]; simp
        simp [hc0, hpa, hpb, hqa, hqb, List.take_of_length_le, hw, hix, cP, s133_13, ]
        refine call_f (w_spec_CompareRows z y) (by simp) rfl fun hs3 hh3 => ?_
        simp at hh3
        by_cases e : z = y
        · subst e
          simp [cmpL_self]
          exact back ([], b, o ++ [z]) (MI.swap (hL.1 (hI'.last.2 rfl))) (by simp <;> omega) rfl (by simp <;> omega) (by simp) (by simp)
        · have e' : ¬ cmpL z y = 0 := fun h => e ((cmpL_zero _ _).1 h)
          simp [e', show LenOk 24 (o.length + 1 + 1) from ⟨by omega, by simp only [maxLen]; omega⟩, cP]
          exact back ([], b, o ++ [z] ++ [y]) (MI.swap (hL.2 fun h => e (hI'.last.1 h))) (by simp <;> omega) rfl (by simp <;> omega) (by simp) (by simp)
  · rcases b with _ | ⟨y, b⟩
    · refine anyQ fun Q => ?_
      have hc0 : True := trivial
      have hL := hI.left (by simp)
      rcases nil_or_snoc out with rfl | ⟨o, z, rfl⟩
      · simp [hc0, hpa, hpb, hqa, hqb, List.take_of_length_le, cP, hL24, s133_13, ]
        exact back (a, [], [x]) ((hL.2 (by simp))) (by simp <;> omega) rfl (by simp <;> omega) (by simp) (by simp)
      · simp only [List.length_append, List.length_cons, List.length_nil] at hlen
        have hw : IntKind.i64.wrap (o.length : Int) = o.length := wrap64_of (by omega) (by omega)
        have hix : (o.map (cP cI) ++ [[D.pl (z.map cI)]])[o.length]? = some [D.pl (z.map cI)] := by rw [List.getElem?_append_right (by simp)]; simp
        simp [hc0, hpa, hpb, hqa, hqb, List.take_of_length_le, hw, hix, cP, s133_13, ]
        refine call_f (w_spec_CompareRows z x) (by simp) rfl fun hs3 hh3 => ?_
        simp at hh3
        by_cases e : z = x
        · subst e
          simp [cmpL_self]
          exact back (a, [], o ++ [z]) ((hL.1 (hI.last.2 rfl))) (by simp <;> omega) rfl (by simp <;> omega) (by simp) (by simp)
        · have e' : ¬ cmpL z x = 0 := fun h => e ((cmpL_zero _ _).1 h)
          simp [e', show LenOk 24 (o.length + 1 + 1) from ⟨by omega, by simp only [maxLen]; omega⟩, cP]
          exact back (a, [], o ++ [z] ++ [x]) ((hL.2 fun h => e (hI.last.1 h))) (by simp <;> omega) rfl (by simp <;> omega) (by simp) (by simp)
    · refine anyQ fun Q => ?_
      simp [cP, hpa, hpb, s133_13, ]
      refine call_f (w_spec_CompareRows x y) (by simp) rfl fun hs0 hh0 => ?_
      simp at hh0
      by_cases hc0 : 0 < cmpL x y
      · have hI' := hI.swap
        have hL := hI'.left (hI.hr hc0)
        rcases nil_or_snoc out with rfl | ⟨o, z, rfl⟩
        · simp [hc0, hpa, hpb, hqa, hqb, List.take_of_length_le, cP, hL24, s133_13, ]
          exact back ((x :: a), b, [y]) (MI.swap (hL.2 (by simp))) (by simp <;> omega) rfl (by simp <;> omega) (by simp) (by simp)
        · simp only [List.length_append, List.length_cons, List.length_nil] at hlen
          have hw : IntKind.i64.wrap (o.length : Int) = o.length := wrap64_of (by omega) (by omega)
          have hix : (o.map (cP cI) ++ [[D.pl (z.map cI)]])[o.length]? = some [D.pl (z.map cI)] := by rw [List.getElem?_append_right (by simp)]; simp
          simp [hc0, hpa, hpb, hqa, hqb, List.take_of_length_le, hw, hix, cP, s133_13, ]
          refine call_f (w_spec_CompareRows z y) (by simp) rfl fun hs3 hh3 => ?_
          simp at hh3
          by_cases e : z = y
          · subst e
            simp [cmpL_self]
            exact back ((x :: a), b, o ++ [z]) (MI.swap (hL.1 (hI'.last.2 rfl))) (by simp <;> omega) rfl (by simp <;> omega) (by simp) (by simp)
          · have e' : ¬ cmpL z y = 0 := fun h => e ((cmpL_zero _ _).1 h)
            simp [e', show LenOk 24 (o.length + 1 + 1) from ⟨by omega, by simp only [maxLen]; omega⟩, cP]
            exact back ((x :: a), b, o ++ [z] ++ [y]) (MI.swap (hL.2 fun h => e (hI'.last.1 h))) (by simp <;> omega) rfl (by simp <;> omega) (by simp) (by simp)
      ·
        have hL := hI.left (hI.hl hc0)
        rcases nil_or_snoc out with rfl | ⟨o, z, rfl⟩
        · simp [hc0, hpa, hpb, hqa, hqb, List.take_of_length_le, cP, hL24, s133_13, ]
          exact back (a, (y :: b), [x]) ((hL.2 (by simp))) (by simp <;> omega) rfl (by simp <;> omega) (by simp) (by simp)
        · simp only [List.length_append, List.length_cons, List.length_nil] at hlen
          have hw : IntKind.i64.wrap (o.length : Int) = o.length := wrap64_of (by omega) (by omega)
          have hix : (o.map (cP cI) ++ [[D.pl (z.map cI)]])[o.length]? = some [D.pl (z.map cI)] := by rw [List.getElem?_append_right (by simp)]; simp
          simp [hc0, hpa, hpb, hqa, hqb, List.take_of_length_le, hw, hix, cP, s133_13, ]
          refine call_f (w_spec_CompareRows z x) (by simp) rfl fun hs3 hh3 => ?_
          simp at hh3
          by_cases e : z = x
          · subst e
            simp [cmpL_self]
            exact back (a, (y :: b), o ++ [z]) ((hL.1 (hI.last.2 rfl))) (by simp <;> omega) rfl (by simp <;> omega) (by simp) (by simp)
          · have e' : ¬ cmpL z x = 0 := fun h => e ((cmpL_zero _ _).1 h)
            simp [e', show LenOk 24 (o.length + 1 + 1) from ⟨by omega, by simp only [maxLen]; omega⟩, cP]
            exact back (a, (y :: b), o ++ [z] ++ [x]) ((hL.2 fun h => e (hI.last.1 h))) (by simp <;> omega) rfl (by simp <;> omega) (by simp) (by simp)
theorem w_spec_NewRelation (ar : Int) (l : List (List Int)) (hb : l.length <= 4294967296) (hn : ∀ x ∈ l, x.length <= 4294967296) : VC Tryz.prog 102 [.d (.int .i64 ar), .d (pS (cP cI) l)] (fun _ v => v = .tup [.agg ((eReln (newR ar l)).map .d), .d (.bool (newB ar l))]) := by
  refine VC.ofL EP s102 (by kernel_rfl) Tryz.func102 (by rfl) (by kernel_rfl) (by simp [Tryz.f102]) (by simp [Tryz.f102]) s102_ok fun B hl => ?_
  simp [Tryz.f102, eReln]
  refine loop_rule (X := Nat) (fun i => i <= l.length /\ AllTo (fun r : List Int => decide ((r.length : Int) = ar) && valsOk r) l i) (fun i => [(0, .d (.int .i64 ar)), (1, .d (.pl (l.map (cP cI)))), (4, .ptr 4 0 0), (6, .d (.int .i64 i))])
    (fun i => [(4, some (.box [.d (.int .i64 0), .d (.sl none none [])]))]) (fun i => l.length - i) 0 ⟨by simp, allTo_zero⟩ (by simp) (by simp) ?_
  intro i hs t m hi hh
  by_cases hlt : i < l.length
  · have hwi := wr1 (i := i) (by omega)
    by_cases hln : (l[i].length : Int) = ar
    · simp [hlt, hln, cP, ]
      refine call_f (w_spec_AreValidValues l[i]) (by simp) rfl fun hs1 hh1 => ?_
      simp at hh1
      cases hv : valsOk l[i]
      · have hbad := all_bad (p := fun r : List Int => decide ((r.length : Int) = ar) && valsOk r) hlt (by simp [hv])
        simp [newR, newB, hbad, eReln]
      · simp [hwi]
        exact back (i + 1) ⟨by omega, allTo_step hi.2 hlt (by simp [hv, hln])⟩ (by omega) rfl (by simp <;> omega) (by simp) (by simp)
    · have hbad := all_bad (p := fun r : List Int => decide ((r.length : Int) = ar) && valsOk r) hlt (by simp [hln])
      simp [hlt, hln, newR, newB, hbad, eReln, ]
  · have hd := allTo_done hi.2 (by omega)
    have hsl := srtU_len l
    simp [hlt, ]
    refine call_p (w_spec_l5Sort _ l (Nat.le_refl _) hb) (by simp) fun hs1 hh1 _ => ?_
    simp at hh1
    simp []
    refine call_p (w_spec_l5Copy ⟨ar, srtU l⟩ (by simp; omega) (fun x hx => hn x ((srtU_mem l x).1 hx))) (by simp [eReln]) fun hs2 hh2 _ => ?_
    simp at hh2
    simp [eReln]
    refine call_f (w_spec_IsValidRelation ⟨ar, srtU l⟩) (by simp [eReln]) rfl fun hs3 hh3 => ?_
    simp at hh3
    cases h1 : rowsOk ar (srtU l)
    · simp [newR, newB, h1, eReln]
    · simp [newR, newB, h1, hd, eReln]
end Go.Proofs.YtmgphabeodaokaaGreat
namespace Go.Proofs.YtmgphabeodaokaaGreat
open Go.Vs Go.Proofs Go
set_option maxRecDepth 100000
set_option maxHeartbeats 1000000
section
attribute [local simp] plI_id plStr_id map_plI map_plStr pS cP cI cStr cU8 cB
theorem q_impl_Difference (a b : PReln) : VC Tryz.prog 85 [.agg ((eReln a).map V.d), .agg ((eReln b).map V.d)] (fun _ v => v = .tup [.agg ((eReln (difR a b)).map V.d), .d (.bool (difB a b))]) := by
  refine VC.ofL EP s85 (by kernel_rfl) Tryz.func85 (by rfl) (by kernel_rfl) (by simp [Tryz.f85]) (by simp [Tryz.f85]) s85_ok fun B hl => ?_
  obtain ⟨aa, al⟩ := a
  obtain ⟨ba, bl⟩ := b
  simp [Tryz.f85, s85_8, eReln]
  refine call_f (w_impl_IsValidRelation ⟨aa, al⟩) (by simp [eReln]) rfl fun hs1 hh1 => ?_
  simp at hh1
  cases h1 : rowsOk aa al
  · simp [difR, difB, h1, eReln]
  simp
  refine call_f (w_impl_IsValidRelation ⟨ba, bl⟩) (by simp [eReln]) rfl fun hs2 hh2 => ?_
  simp at hh2
  cases h2 : rowsOk ba bl
  · simp [difR, difB, h1, h2, eReln]
  by_cases h3 : aa = ba
  case neg => simp [difR, difB, h1, h2, h3, eReln]
  subst h3
  have hdb : difB ⟨aa, al⟩ ⟨aa, bl⟩ = true := by simp [difB, h1, h2]
  have hdr : difR ⟨aa, al⟩ ⟨aa, bl⟩ = ⟨aa, difL al bl⟩ := by simp only [difR, hdb, if_true]
  rw [hdb, hdr]
  have hal := rowsOk_len h1
  have hbl := rowsOk_len h2
  have hrow := rowsOk_row h1
  simp
  refine loop_ruleL (X := Nat) (fun i _ => i <= al.length) (fun i => [(2, .ptr 2 0 0), (3, .ptr 3 0 0), (4, .ptr 4 0 0), (6, .ptr 6 0 0), (29, .d (.pl (al.map (cP cI)))), (30, .d (.int .i64 al.length)), (31, .d (.int .i64 i))])
    (fun i => [(2, some (.box [.d (.int .i64 aa), .d (.pl (al.map (cP cI)))])), (3, some (.box [.d (.int .i64 aa), .d (.pl (bl.map (cP cI)))])), (4, some (.box [.d (.int .i64 0), .d (.sl none none [])])), (6, some (.box [.d (.int .i64 aa), .own 44 0 (difL (al.take i) bl).length])), (44, some (.row 28 1 ((difL (al.take i) bl).map (cP cI))))]) (fun i => al.length - i) ?_ ?_
  · refine (lead_box 6 1 44 28 1 [.d (.int .i64 aa), .d (.sl none none [])] (by omega) (by omega) (by omega) (by simp) rfl).bind ?_
    rintro _ rfl
    exact Lead.of ⟨0, by omega, rfl, rfl, Nat.le_refl _, by simp, by simp [difL]⟩
  intro i hs t m hi hh
  by_cases hlt : i < al.length
  · have hwi := wr1 (i := i) (by omega)
    have hst := difL_step (b := bl) hlt
    have hdl := difL_len (al.take i) bl
    rw [List.length_take] at hdl
    have hL1 : LenOk 8 al[i].length := by
      have := hrow _ (List.getElem_mem hlt)
      exact ⟨by omega, by simp only [maxLen]; omega⟩
    have hL2 : LenOk 24 ((difL (al.take i) bl).length + 1) := ⟨by omega, by simp only [maxLen]; omega⟩
    simp [hlt, s85_8, ]
    refine call_f (VC.to (w_impl_ContainsRow ⟨aa, bl⟩ al[i] (by show bl.length <= _; omega)) (show _ = V.d (.bool (placeB bl al[i])) by simp [hasR, h2])) (by simp [eReln]) rfl fun hs3 hh3 => ?_
    simp at hh3
    cases h4 : placeB bl al[i]
    · rw [h4] at hst
      simp only [Bool.false_eq_true, if_false] at hst
      simp [hlt, s85_8, ]
      refine call_p (q_impl_copyInts al[i] (by have := hrow _ (List.getElem_mem hlt); omega)) (by simp) fun hs4 hh4 hl4 => ?_
      simp at hh4
      simp [hwi, hL2, s85_8, ]
      exact back2 (i + 1) (by omega) (by omega) rfl (by simp <;> omega) (by simp) (by simp [hst])
    · rw [h4] at hst
      simp only [if_true, List.append_nil] at hst
      simp [hwi, s85_8, ]
      exact back2 (i + 1) (by omega) (by omega) rfl (by simp <;> omega) (by simp) (by simp [hst])
  · have hn : i = al.length := by omega
    subst hn
    simp [List.take_of_length_le]
theorem w_spec_Union (a b : PReln) : VC Tryz.prog 67 [.agg ((eReln a).map V.d), .agg ((eReln b).map V.d)] (fun _ v => v = .tup [.agg ((eReln (uniR a b)).map V.d), .d (.bool (uniB a b))]) := by
  refine VC.ofL EP s67 (by kernel_rfl) Tryz.func67 (by rfl) (by kernel_rfl) (by simp [Tryz.f67]) (by simp [Tryz.f67]) s67_ok fun B hl => ?_
  obtain ⟨aa, al⟩ := a
  obtain ⟨ba, bl⟩ := b
  simp [Tryz.f67, s67_3, eReln]
  refine call_f (w_spec_IsValidRelation ⟨aa, al⟩) (by simp [eReln]) rfl fun hs1 hh1 => ?_
  simp at hh1
  cases h1 : rowsOk aa al
  · simp [uniR, uniB, difB, h1, eReln]
  simp
  refine call_f (w_spec_IsValidRelation ⟨ba, bl⟩) (by simp [eReln]) rfl fun hs2 hh2 => ?_
  simp at hh2
  cases h2 : rowsOk ba bl
  · simp [uniR, uniB, difB, h1, h2, eReln]
  by_cases h3 : aa = ba
  case neg => simp [uniR, uniB, difB, h1, h2, h3, eReln]
  subst h3
  have hdb : difB ⟨aa, al⟩ ⟨aa, bl⟩ = true := by simp [difB, h1, h2]
  obtain ⟨z1, z2, z3, z4⟩ := difB_len hdb
  simp only at z3 z4
  have hL1 : LenOk 24 al.length := ⟨by omega, by simp only [maxLen]; omega⟩
  have hL2 : LenOk 24 (al.length + bl.length) := ⟨by omega, by simp only [maxLen]; omega⟩
  have hN := w_spec_NewRelation aa (al ++ bl) (by simp; omega) (fun x hx => by
    rcases List.mem_append.1 hx with h | h
    · exact z1.2 x h
    · exact z2.2 x h)
  simp [hL1, hL2, List.take_of_length_le, s67_3, ]
  repeat' apply And.intro
  all_goals
    refine call_p hN (by simp [List.take_of_length_le]) fun hs3 hh3 hl3 => ?_
    simp [uniR, uniB, hdb, eReln, s67_3, ]
end
end Go.Proofs.YtmgphabeodaokaaGreat
namespace Go.Proofs.YtmgphabeodaokaaGreat
open Go.Vs Go.Proofs Go
set_option maxRecDepth 100000
set_option maxHeartbeats 1000000
theorem e_impl_sorted : ∀ (n : Nat) (l : List (List Int)), l.length <= n -> l.length <= 4294967296 -> (∀ r ∈ l, r.length <= 4294967296) ->
   VC Tryz.prog 95 [.d (pS (cP cI) l)] (fun m r => ∃ y : Sl Ints, r = .d (dSl (cS cI) y) /\ plS (plS plI) y = srtU l /\ okS (okS okI) y /\ Good (cS (cS cI) y) (whS (whS whI) y) m) := by
  intro n
  induction n with
  | zero =>
    intro l hn hb hb2
    have : l = [] := List.length_eq_zero_iff.1 (by omega)
    subst this
    refine VC.of E s95 (by kernel_rfl) Tryz.func95 (by rfl) (by kernel_rfl) (by simp [Tryz.f95]) (by simp [Tryz.f95]) s95_ok fun B => ?_
    simp [Tryz.f95, s95_4, s95_11, s95_4, s95_11, pS]
    refine call_some (e_impl_copyRows [] (by simp) (by simp)) (by simp [pS]) (by simp) fun n1 hs1 r1 hn1 hm1 hp1 hr1 => ?_
    obtain ⟨y, rfl, p1, k1, G1⟩ := hp1
    simp at hn1
    simp
    exact ⟨y, rfl, by rw [p1]; rfl, k1, G1.le (by omega)⟩
  | succ n ih =>
  intro l hn hb hb2
  refine VC.of E s95 (by kernel_rfl) Tryz.func95 (by rfl) (by kernel_rfl) (by simp [Tryz.f95]) (by simp [Tryz.f95]) s95_ok fun B => ?_
  by_cases h2 : l.length < 2
  · have e : srtU l = l := srtU_id (by
      match l, h2 with
      | [], _ => exact .nil
      | [_], _ => simp
      | _ :: _ :: _, h => simp only [List.length_cons] at h; omega)
    simp [Tryz.f95, s95_4, s95_11, s95_4, s95_11, pS, show ((l.length : Int) < 2) by omega]
    refine call_some (e_impl_copyRows l hb hb2) (by simp [pS]) (by simp) fun n1 hs1 r1 hn1 hm1 hp1 hr1 => ?_
    obtain ⟨y, rfl, p1, k1, G1⟩ := hp1
    simp at hn1
    simp
    exact ⟨y, rfl, by rw [p1, e], k1, G1.le (by omega)⟩
  obtain ⟨k, hk⟩ : ∃ k, k = l.length / 2 := ⟨_, rfl⟩
  have hm : IntKind.i64.wrap ((l.length : Int) / 2) = (k : Int) := by rw [wrap64_of (by omega) (by omega)]; omega
  have hkl : k <= l.length := by omega
  simp [Tryz.f95, s95_4, s95_11, s95_4, s95_11, pS, show ¬ ((l.length : Int) < 2) by omega, hm, hkl]
  have hA := ih (l.take k) (by simp; omega) (by simp; omega) (fun r hr => hb2 r (List.mem_of_mem_take hr))
  have hB' := ih (l.drop k) (by simp; omega) (by simp; omega) (fun r hr => hb2 r (List.mem_of_mem_drop hr))
  simp only [pS, List.map_take] at hA
  simp only [pS, List.map_drop] at hB'
  refine call_some hA (by simp) (by simp) fun n1 hs1 r1 hn1 hm1 hp1 hr1 => ?_
  obtain ⟨ya, rfl, p1, k1, G1⟩ := hp1
  simp at hn1
  simp [hm, hkl, List.take_of_length_le, s95_4, s95_11, ]
  refine call_some hB' (by simp) (by simp) fun n2 hs2 r2 hn2 hm2 hp2 hr2 => ?_
  obtain ⟨yb, rfl, p2, k2, G2⟩ := hp2
  simp at hn2
  have hst := MJ.start l k
  rw [<- p1, <- p2] at hst
  obtain ⟨aid, aT, as_⟩ := ya
  obtain ⟨bid, bT, bs_⟩ := yb
  have u1 : ∀ g ∈ idsLL (as_.map (cS cI)), g < hs1 := fun g hg => hr1 g (by rw [V.ids]; exact mem_sl_ids.2 (.inr hg))
  have own0 : OwnR B ([] ++ (as_ ++ bs_)) := by
    have g1 := G1.nd
    have g2 := G2.nd
    rw [idsL_cS] at g1 g2
    have h1 := (sl_nd g1).1
    have h2 := (sl_nd g2).1
    have e : idsLL ((as_ ++ bs_).map (cS cI)) = idsLL (as_.map (cS cI)) ++ idsLL (bs_.map (cS cI)) := by rw [List.map_append, idsLL_append]
    have l1 : ∀ g ∈ idsLL (as_.map (cS cI)), B <= g := fun g hg => by have := G1.lo g (by rw [idsL_cS]; exact mem_sl_ids.2 (.inr hg)); omega
    have l2 : ∀ g ∈ idsLL (bs_.map (cS cI)), n2 <= g := fun g hg => G2.lo g (by rw [idsL_cS]; exact mem_sl_ids.2 (.inr hg))
    refine ⟨?_, ?_, fun r hr => ?_, fun r hr => ?_⟩
    · rw [List.nil_append, e]
      exact List.nodup_append.2 ⟨h1, h2, fun x hx y hy hxy => by subst hxy; have := u1 x hx; have := l2 x hy; omega⟩
    · intro g hg
      rw [List.nil_append, e] at hg
      rcases List.mem_append.1 hg with h | h
      · exact l1 g h
      · have := l2 g h; omega
    · rcases (by simpa using hr : r ∈ as_ \/ r ∈ bs_) with h | h
      · exact G1.wh.2 r h
      · exact G2.wh.2 r h
    · rcases (by simpa using hr : r ∈ as_ \/ r ∈ bs_) with h | h
      · exact k1.2 r h
      · exact k2.2 r h
  clear hr1 hr2 u1
  simp [dSl, s95_4, s95_11, ]
  refine loop_ruleL (X := List Ints × List Ints × List Ints × Option (TypeId × Nat) × Option (TypeId × Nat)) (fun p _ => SrtI l B p) (fun p => [(4, .d (.sl aid p.2.2.2.1 (p.1.map (cS cI)))), (5, .d (.sl bid p.2.2.2.2 (p.2.1.map (cS cI)))), (6, .own 52 0 p.2.2.1.length)])
    (fun p => [(52, some (.row 28 1 (p.2.2.1.map (cS cI))))]) (fun p => p.1.length + p.2.1.length) ?_ ?_
  · refine (lead_slot 6 52 28 1 (by omega) (by omega) (by simp)).bind ?_
    rintro _ rfl
    exact Lead.of ⟨(as_, bs_, [], aT, bT), ⟨hst, own0⟩, rfl, rfl, Nat.le_refl _, by simp, by simp⟩
  rintro ⟨a, b, o, Ta, Tb⟩ hs t m hI hh
  have hlen := hI.mj.len
  simp only [List.length_map] at hlen
  have hpa : ∀ a : List Ints, (0 : Int) < (a.length : Int) + 1 := fun a => by omega
  have hpb : ∀ a : List Ints, ¬ (a.length : Int) + 1 = 0 := fun a => by omega
  rcases a with _ | ⟨x, a⟩
  · rcases b with _ | ⟨y, b⟩
    · have hd := hI.mj.done
      simp only at hd
      simp [s95_4, s95_11, ]
      intro γ hs' h1 hg
      obtain ⟨q1, q2⟩ := gam_at hg (k := 52) (T := 28) (sz := 1) (es := o.map (cS cI)) (by simp)
      have q3 := gam_row hg (k := 52) (T := 28) (sz := 1) (es := o.map (cS cI)) (by simp)
      clear hg
      have hown : OwnR B o := by have := hI.own; simpa using this
      have hp : hpLL (o.map (cS cI)) = false := hpLL_mapS o
      simp only [List.length_nil] at hlen
      exact ⟨⟨γ 52, some (28, 1), o⟩, by simp [dSl, List.take_of_length_le], by simpa [plS] using hd, ⟨by simp only [maxLen]; show o.length <= _; omega, hown.ok⟩, good_row (fun g hg => (q1 g hg).1) (by simpa using q2) q3 ⟨hown.nd, hown.lo⟩ hown.wh⟩
    · simp only [List.length_cons, List.length_nil] at hlen
      have hL : LenOk 24 (o.length + 1) := ⟨by omega, by simp only [maxLen]; omega⟩
      refine anyQ2 fun Q => ?_
      simp [hpa, hpb, hL, cS, dSl, s95_4, s95_11, ]
      exact back2 ([], b, o ++ [y], Ta, (if bid.isSome = true then none else Tb)) (hI.right (by simp)) (by simp <;> omega) rfl (by simp <;> omega) (by simp [cS, dSl, List.take_of_length_le]) (by simp [cS, dSl])
  · rcases b with _ | ⟨y, b⟩
    · simp only [List.length_cons, List.length_nil] at hlen
      have hL : LenOk 24 (o.length + 1) := ⟨by omega, by simp only [maxLen]; omega⟩
      refine anyQ2 fun Q => ?_
      simp [hpa, hpb, hL, cS, dSl, s95_4, s95_11, ]
      exact back2 (a, [], o ++ [x], (if aid.isSome = true then none else Ta), Tb) (hI.left (by simp)) (by simp <;> omega) rfl (by simp <;> omega) (by simp [cS, dSl, List.take_of_length_le]) (by simp [cS, dSl])
    · simp only [List.length_cons] at hlen
      have hL : LenOk 24 (o.length + 1) := ⟨by omega, by simp only [maxLen]; omega⟩
      have hM := hI.mj
      simp only [List.map_cons] at hM
      refine anyQ2 fun Q => ?_
      simp [hpa, hpb, cS, dSl, s95_4, s95_11, ]
      refine call_f (w_impl_CompareRows (plS plI x) (plS plI y)) (by simp [plS, pS, erLL_map er_cI, map_plI]) rfl fun hs3 hh3 => ?_
      simp at hh3
      by_cases c1 : cmpL (plS plI x) (plS plI y) < 0
      · have c2 : cmpL (plS plI x) (plS plI y) <= 0 := by omega
        have c3 : ¬ 0 <= cmpL (plS plI x) (plS plI y) := by omega
        simp [c2, c3, hL, cS, dSl, s95_4, s95_11, ]
        exact back2 (a, y :: b, o ++ [x], (if aid.isSome = true then none else Ta), Tb) (hI.left (hM.less c1)) (by simp <;> omega) rfl (by simp <;> omega) (by simp [cS, dSl, List.take_of_length_le]) (by simp [cS, dSl])
      by_cases c4 : cmpL (plS plI x) (plS plI y) = 0
      · have e := (cmpL_zero _ _).1 c4
        simp [c4, hL, cS, dSl, s95_4, s95_11, ]
        exact back2 (a, b, o ++ [x], (if aid.isSome = true then none else Ta), (if bid.isSome = true then none else Tb)) (hI.both e) (by simp <;> omega) rfl (by simp <;> omega) (by simp [cS, dSl, List.take_of_length_le]) (by simp [cS, dSl])
      · have c2 : ¬ cmpL (plS plI x) (plS plI y) <= 0 := by omega
        have c3 : 0 <= cmpL (plS plI x) (plS plI y) := by omega
        have c5 : 0 < cmpL (plS plI x) (plS plI y) := by omega
        have c6 : cmpL (plS plI y) (plS plI x) < 0 := by have := cmpL_swap (plS plI x) (plS plI y); omega
        simp [c2, c3, c5, hL, cS, dSl, s95_4, s95_11, ]
        exact back2 (x :: a, b, o ++ [y], Ta, (if bid.isSome = true then none else Tb)) (hI.right (hM.swap.less c6)) (by simp <;> omega) rfl (by simp <;> omega) (by simp [cS, dSl, List.take_of_length_le]) (by simp [cS, dSl])
theorem e_impl_NewRelation (ar : Int) (l : List (List Int)) (hb : l.length <= 4294967296) (hb2 : ∀ r ∈ l, r.length <= 4294967296) :
   VC Tryz.prog 125 [.d (.int .i64 ar), .d (pS (cP cI) l)] (fun m r => ∃ y : Reln, r = .tup [.agg ((cReln y).map V.d), .d (.bool (newB ar l))] /\ plReln y = newR ar l /\ okReln y /\ Good (cReln y) (whReln y) m) := by
  refine VC.of E s125 (by kernel_rfl) Tryz.func125 (by rfl) (by kernel_rfl) (by simp [Tryz.f125]) (by simp [Tryz.f125]) s125_ok fun B => ?_
  have hno : newB ar l = false -> ∃ y : Reln, V.tup [.agg ((cReln ⟨0, nilS⟩).map V.d), .d (.bool false)] = .tup [.agg ((cReln y).map V.d), .d (.bool (newB ar l))] /\ plReln y = newR ar l /\ okReln y /\ Good (cReln y) (whReln y) B := fun h =>
    ⟨⟨0, nilS⟩, by rw [h], by simp [newR, h, plReln, plI, nilS, plS], ⟨trivial, ok_nilS⟩, good_Reln0 B⟩
  simp only [cReln, cS, cI, nilS, dSl] at hno
  simp at hno
  simp [Tryz.f125, pS]
  refine loop_rule (X := Nat) (ToN ar l) (fun i => [(0, .d (.int .i64 ar)), (1, .d (.pl (l.map (cP cI)))), (4, .ptr 4 0 0), (9, .d (.pl (l.map (cP cI)))), (10, .d (.int .i64 l.length)), (11, .d (.int .i64 i))])
    (fun i => [(4, some (.box [.d (.int .i64 0), .d (.sl none none [])]))]) (fun i => l.length - i) 0 .zero (by simp [cP, cI, pS]) (by simp) ?_
  intro i hs t m hi hh
  have hle := hi.le
  by_cases hlt : i < l.length
  · have hwi := wr1 (i := i) (by omega)
    by_cases hln : (l[i].length : Int) = ar
    · simp [hlt, hln, cP, pS, ]
      refine call_f (w_impl_AreValidValues l[i]) (by simp [pS]) rfl fun hs1 hh1 => ?_
      simp at hh1
      cases hv : valsOk l[i]
      · have hB0 : newB ar l = false := hi.bad hlt (by simp [hv])
        simp
        simpa [hB0, cReln, cS, cI, dSl] using hno hB0
      · simp [hwi]
        exact back (i + 1) (hi.step hlt (by simp [hv, hln])) (by omega) rfl (by simp <;> omega) (by simp [cP, cI, pS]) (by simp)
    · have hB0 : newB ar l = false := hi.bad hlt (by simp [hln])
      simp [hlt, hln, cP, pS, ]
      simpa [hB0, cReln, cS, cI, dSl] using hno hB0
  · have hd := hi.done (by omega)
    have hsl := srtU_len l
    simp [hlt, ]
    refine call_some (e_impl_sorted _ l (Nat.le_refl _) hb hb2) (by simp [pS]) (by simp) fun n1 hs1 r1 hn1 hm1 hp1 hr1 => ?_
    obtain ⟨y, rfl, p1, k1, G1⟩ := hp1
    simp at hn1
    clear hr1
    simp []
    refine call_f (w_impl_IsValidRelation ⟨ar, srtU l⟩) (by simp [<- p1, eReln, er_SI, cI]) rfl fun hs3 hh3 => ?_
    simp at hh3
    cases h1 : rowsOk ar (srtU l)
    · have hB0 : newB ar l = false := by rw [newB, h1, Bool.and_false]
      simp
      simpa [hB0, cReln, cS, cI, dSl] using hno hB0
    · have hB1 : newB ar l = true := by rw [newB, h1, hd]; rfl
      simp [hB1]
      exact ⟨⟨ar, y⟩, by simp [cReln, cS, cI], by simp only [newR, hB1, if_true, plReln, plI]; rw [p1], ⟨trivial, k1⟩, good_Reln G1 (by omega)⟩
theorem e_impl_Union (a : PReln) (b : Reln) (kb : okReln b) :
   VC Tryz.prog 86 [.agg ((eReln a).map V.d), .agg ((cReln b).map V.d)] (fun m r => ∃ y : Reln, r = .tup [.agg ((cReln y).map V.d), .d (.bool (uniB a (plReln b)))] /\ plReln y = uniR a (plReln b) /\ okReln y /\ Good (cReln y) (whReln y) m) := by
  refine VC.ofB E s86 (by kernel_rfl) Tryz.func86 (by rfl) (by kernel_rfl) (by simp [Tryz.f86]) (by simp [Tryz.f86]) s86_ok fun B hB => ?_
  have hbB : ∀ g ∈ idsL (cReln b), g < B := fun g hg => hB g (by simp only [idsVL, V.ids, idsVL_map_d, List.mem_append]; simp [hg])
  obtain ⟨aa, al⟩ := a
  obtain ⟨ba, ⟨bid, bT, bl⟩⟩ := b
  obtain ⟨L, hL⟩ : ∃ L, L = bl.map (plS plI) := ⟨_, rfl⟩
  have hp : plReln ⟨ba, ⟨bid, bT, bl⟩⟩ = ⟨ba, L⟩ := by rw [hL]; rfl
  rw [hp]
  have hno : difB ⟨aa, al⟩ ⟨ba, L⟩ = false -> ∃ y : Reln, V.tup [.agg ((cReln ⟨0, nilS⟩).map V.d), .d (.bool false)] = .tup [.agg ((cReln y).map V.d), .d (.bool (uniB ⟨aa, al⟩ ⟨ba, L⟩))] /\ plReln y = uniR ⟨aa, al⟩ ⟨ba, L⟩ /\ okReln y /\ Good (cReln y) (whReln y) B := fun h =>
    ⟨⟨0, nilS⟩, by simp [uniB, h], by simp [uniR, h, plReln, plI, nilS, plS], ⟨trivial, ok_nilS⟩, good_Reln0 B⟩
  simp only [cReln, cS, cI, nilS, dSl] at hno
  simp at hno
  simp [Tryz.f86, s86_3, eReln, cReln, cI, cP, cS, dSl]
  refine call_f (w_impl_IsValidRelation ⟨aa, al⟩) (by simp [eReln, cI, cP]) rfl fun hs1 hh1 => ?_
  simp at hh1
  cases h1 : rowsOk aa al
  · have hd : difB ⟨aa, al⟩ ⟨ba, L⟩ = false := by simp [difB, h1]
    simp
    simpa [uniB, hd] using hno hd
  simp
  refine call_f (w_impl_IsValidRelation ⟨ba, L⟩) (by simp [hL, eReln, cI, cP, pS, erLL_map (er_cS er_cI)]) rfl fun hs2 hh2 => ?_
  simp at hh2
  cases h2 : rowsOk ba L
  · have hd : difB ⟨aa, al⟩ ⟨ba, L⟩ = false := by simp [difB, h1, h2]
    simp
    simpa [uniB, hd] using hno hd
  by_cases h3 : aa = ba
  case neg =>
    have hd : difB ⟨aa, al⟩ ⟨ba, L⟩ = false := by simp [difB, h1, h2, h3]
    simp [h3]
    simpa [uniB, hd] using hno hd
  subst h3
  have hdb : difB ⟨aa, al⟩ ⟨aa, L⟩ = true := by simp [difB, h1, h2]
  obtain ⟨z1, z2, z3, z4⟩ := difB_len hdb
  simp only at z3 z4
  have hlb : bl.length = L.length := by rw [hL]; simp
  have uS : uniB ⟨aa, al⟩ ⟨aa, L⟩ = newB aa (al ++ L) := by simp [uniB, hdb]
  have uR : uniR ⟨aa, al⟩ ⟨aa, L⟩ = newR aa (al ++ L) := by simp only [uniR, hdb, if_true]
  rw [uS, uR]
  have hN := e_impl_NewRelation aa (al ++ L) (by simp; omega) (fun x hx => by
    rcases List.mem_append.1 hx with h | h
    · exact z1.2 x h
    · exact z2.2 x h)
  have hid : ∀ n r, (∃ y : Reln, r = V.tup [.agg ((cReln y).map V.d), .d (.bool (newB aa (al ++ L)))] /\ plReln y = newR aa (al ++ L) /\ okReln y /\ Good (cReln y) (whReln y) n) -> (∀ i ∈ r.ids, n <= i) /\ r.hp = false := by
    rintro n _ ⟨y, rfl, _, _, G⟩
    refine ⟨fun i hi => G.lo i ?_, by simp [V.hp, hpVL, cReln, cI, cS, dSl, D.hp]⟩
    simpa [V.ids, idsVL, ids_agg, idsVL_map_d, D.ids] using hi
  simp [s86_3, ]
  by_cases hal : al = []
  · subst hal
    have hL2 : LenOk 24 L.length := ⟨by omega, by simp only [maxLen]; omega⟩
    refine call_pure e_impl_copyRows0 (by simp) (by simp [pS, cP]) (by simp [V.ids, D.ids, idsLL]) fun hs3 hh3 => ?_
    simp at hh3
    simp [cS, cI, dSl, hlb, hL2, s86_3, ]
    refine call_own (by simp) (fun γ n hn hg => ⟨[.d (.int .i64 aa), .d (.sl (γ 29) (some (28, 1)) (bl.map (cS cI)))], by simp [<- hlb, hpLL_mapS, List.take_of_length_le, cS, dSl], hN.er (by simp [hL, pS, cP, erLL_map (er_cS er_cI)])⟩) hid fun n3 hs4 r3 hn3 hm3 hp3 hr3 => ?_
    obtain ⟨z, rfl, pz, kz, Gz⟩ := hp3
    simp at hn3
    clear hr3
    simp [cReln, cI, cS, dSl, s86_3, ]
    exact ⟨z, by simp [cReln, cI, cS, dSl], pz, kz, Gz.le (by omega)⟩
  · have hL2 : LenOk 24 (al.length + L.length) := ⟨by omega, by simp only [maxLen]; omega⟩
    refine call_some (e_impl_copyRowsT al (z1.1) z1.2) (by simp [pS]) (by simp) fun n1 hs3 r1 hn1 hm1 hp1 hr1 => ?_
    obtain ⟨⟨yid, yT, ys⟩, rfl, p1, k1, G1, hT⟩ := hp1
    simp only at hT
    subst hT
    simp at hn1
    have hyl : ys.length = al.length := by rw [<- p1]; simp [plS]
    have hy0 : ys ≠ [] := fun h => hal (by rw [<- p1, h]; rfl)
    obtain ⟨g, rfl⟩ : ∃ g, yid = some g := by
      cases yid with
      | none => exact absurd (G1.wh.1.nil rfl) hy0
      | some g => exact ⟨g, rfl⟩
    have hgn : n1 <= g := G1.lo g (by rw [idsL_cS]; exact mem_sl_ids.2 (.inl rfl))
    have hgB : B <= g := by omega
    have hbi : ∀ i ∈ (dSl (cS cI) ⟨bid, bT, bl⟩).ids, i < B := fun i hi => hbB i (by rw [cReln, idsL_app, idsL_cS]; simp [hi])
    have hg1 : g ∉ (D.sl bid bT (bl.map (cS cI))).ids := fun h => by have := hbi g h; omega
    have hg2 : g ∉ idsLL (bl.map (cS cI)) := fun h => hg1 (mem_sl_ids (s := ⟨bid, bT, bl⟩).2 (.inr h))
    have hg3 : g ∉ idsLL (ys.map (cS cI)) := by
      have := G1.nd
      rw [idsL_cS] at this
      exact (sl_nd this).2 g rfl
    have kg : ∀ i, i < B -> kphi (some g) i = none := fun i hi => by simp only [kphi]; rw [if_neg (by simp; omega)]
    have eb : reV (kphi (some g)) (.d (.sl bid bT (bl.map (cS cI)))) = .d (.sl bid bT (bl.map (cS cI))) := reV_id (.d (dSl (cS cI) ⟨bid, bT, bl⟩)) fun i hi => kg i (hbi i hi)
    have hp1 : hpLL (bl.map (cS cI)) = false := hpLL_mapS bl
    simp [cS, cI, dSl, St.kill, eb, hgB, hg1, hg2, hg3, hp1, hyl, hlb, hL2, s86_3, ]
    have hg4 : ¬ bid = some g := fun h => hg1 (by rw [h]; simp [D.ids])
    refine ⟨hg4, ?_⟩
    have hp2 : hpLL (ys.map (cS cI)) = false := hpLL_mapS ys
    have ep : ys.map (plS plI) = al := by simpa [plS] using p1
    have eq1 : (ys.map (cS cI) ++ bl.map (cS cI)).length = al.length + L.length := by simp [hyl, hlb]
    refine call_own (by simp) (fun γ n hn hg => ⟨[.d (.int .i64 aa), .d (.sl (γ 29) (some (28, 1)) (ys.map (cS cI) ++ bl.map (cS cI)))], by simp [hp1, hp2, hyl, hlb, List.take_of_length_le], hN.er ?_⟩) hid fun n3 hs4 r3 hn3 hm3 hp3 hr3 => ?_
    · have e3 : erLL (ys.map (cS cI) ++ bl.map (cS cI)) = (al ++ L).map (cP cI) := by rw [<- List.map_append, erLL_map (er_cS er_cI), List.map_append, ep, hL]
      simp [pS, e3]
    obtain ⟨z, rfl, pz, kz, Gz⟩ := hp3
    simp at hn3
    clear hr3
    simp [cReln, cI, cS, dSl, s86_3, ]
    exact ⟨z, by simp [cReln, cI, cS, dSl], pz, kz, Gz.le (by omega)⟩
end Go.Proofs.YtmgphabeodaokaaGreat
namespace Go.Proofs.YtmgphabeodaokaaGreat
open Go.Vs Go.Proofs Go
set_option maxRecDepth 100000
set_option maxHeartbeats 1000000
section
attribute [local simp] plI_id plStr_id map_plI map_plStr pS cP cI cStr cU8 cB eTab eReln
theorem w_spec_l6Copy (d : PDb) (hz : szDb d) : VC Tryz.prog 65 [.agg ((eDb d).map V.d)] (fun _ v => v = .agg ((eDb d).map V.d)) := by
  refine VC.ofL EP s65 (by kernel_rfl) Tryz.func65 (by rfl) (by kernel_rfl) (by simp [Tryz.f65]) (by simp [Tryz.f65]) s65_ok fun B hl => ?_
  obtain ⟨l⟩ := d
  simp only [szDb] at hz
  simp [Tryz.f65, s65_6, s65_6, eDb]
  refine loop_ruleL (X := Nat) (fun i _ => i <= l.length) (fun i => [(1, .ptr 1 0 0), (2, .ptr 2 0 0), (3, .ptr 3 0 0), (4, .d (.int .i64 i))]) (fun i => [(1, some (.box [.d (.pl (l.map eTab))])), (2, some (.box [.d (.sl none none [])])), (3, some (.box [.own 32 0 i])), (32, some (.row 128 3 ((l.take i).map eTab)))]) (fun i => l.length - i) ?_ ?_
  · refine (lead_box 3 0 32 128 3 [.d (.sl none none [])] (by omega) (by omega) (by omega) (by simp) rfl).bind ?_
    rintro _ rfl
    exact Lead.of ⟨0, by omega, rfl, rfl, Nat.le_refl _, by simp, by simp⟩
  intro i hs t m hi hh
  by_cases hlt : i < l.length
  · have hwi := wr1 (i := i) (by omega)
    have hL : LenOk 48 (i + 1) := ⟨by omega, by simp only [maxLen]; omega⟩
    have hmn : min i l.length = i := by omega
    have hr := hz.2 _ (List.getElem_mem hlt)
    obtain ⟨nm, ar, rows, hT⟩ : ∃ nm ar rows, l[i] = ⟨nm, ⟨ar, rows⟩⟩ := ⟨_, _, _, rfl⟩
    have hst2 : List.take (i + 1) (List.map eTab l) = List.take i (List.map eTab l) ++ [[.str nm, .int .i64 ar, .pl (rows.map (cP cI))]] := by
      rw [List.take_succ_eq_append_getElem (by simpa using hlt)]; simp [hT]
    rw [hT] at hr
    simp [hlt, hT, s65_6, ]
    refine call_p (w_spec_l5Copy ⟨ar, rows⟩ hr.1 hr.2) (by simp) fun hs1 hh1 hl1 => ?_
    simp at hh1
    simp [hlt, hT, hL, hwi, hmn, s65_6, ]
    exact back2 (i + 1) (by omega) (by omega) rfl (by simp <;> omega) (by simp) (by simp [hst2])
  · have hn : i = l.length := by omega
    subst hn
    simp [List.take_of_length_le]
end
theorem e_impl_copyDatabase (d : PDb) (hz : szDb d) (hst : ∀ t ∈ d.tabs, t.name.length <= maxLen) : VC Tryz.prog 83 [.agg ((eDb d).map V.d)] (fun n v => ∃ y : Db, v = .agg ((cDb y).map V.d) /\ plDb y = d /\ okDb y /\ Good (cDb y) (whDb y) n) := by
  refine VC.of E s83 (by kernel_rfl) Tryz.func83 (by rfl) (by kernel_rfl) (by simp [Tryz.f83]) (by simp [Tryz.f83]) s83_ok fun B => ?_
  obtain ⟨l⟩ := d
  simp only [szDb] at hz hst
  simp [Tryz.f83, s83_5, s83_5, eDb, pS]
  refine loop_ruleL (X := Nat × List Tab) (CopI cTab whTab okTab plTab l B) (fun p => [(1, .ptr 1 0 0), (2, .ptr 2 0 0), (3, .ptr 3 0 0), (7, .d (.pl (l.map eTab))), (8, .d (.int .i64 l.length)), (9, .d (.int .i64 p.1))]) (fun p => [(2, some (.box [.d (.sl none none [])])), (3, some (.box [.own 22 0 p.2.length])), (22, some (.row 128 3 (p.2.map cTab)))]) (fun p => l.length - p.1) ?_ ?_
  · refine (lead_box 3 0 22 128 3 [.d (.sl none none [])] (by omega) (by omega) (by omega) (by simp) rfl).bind ?_
    rintro _ rfl
    exact Lead.of ⟨(0, []), .zero, rfl, rfl, Nat.le_refl _, by simp, by simp⟩
  rintro ⟨i, ys⟩ hs t m hI hh
  have hle := hI.le
  have hyl := hI.len
  simp only at hle
  by_cases hlt : i < l.length
  · have hwi := wr1 (i := i) (by omega)
    have hL : LenOk 48 (ys.length + 1) := ⟨by omega, by simp only [maxLen]; omega⟩
    have hr := hz.2 _ (List.getElem_mem hlt)
    have hn := hst _ (List.getElem_mem hlt)
    obtain ⟨nm, ar, rows, hT⟩ : ∃ nm ar rows, l[i] = ⟨nm, ⟨ar, rows⟩⟩ := ⟨_, _, _, rfl⟩
    rw [hT] at hr hn
    simp [hlt, hT, eTab, eReln, cStr, cI, cP, s83_5, ]
    refine call_some (e_impl_copyRelation ⟨ar, rows⟩ hr.1 hr.2) (by simp [eReln, cI, cP]) (by simp) fun n1 hs1 r1 hn1 hm1 hp1 hr1 => ?_
    obtain ⟨y, rfl, p1, k1, G1⟩ := hp1
    simp at hn1
    have u1 : ∀ g ∈ idsL (cTab ⟨nm, y⟩), g < hs1 := fun g hg => hr1 g (by
      rw [ids_agg]
      rw [cTab, idsL_app] at hg
      exact (List.mem_append.1 hg).resolve_left (by simp [cStr, idsL, D.ids]))
    simp [cReln, cI, cS, hL, hwi, s83_5, ]
    exact back2 (i + 1, ys ++ [⟨nm, y⟩]) (hI.snoc hlt (by rw [hT]; simp only [plTab, p1]; rfl) (show okTab (⟨nm, y⟩ : Tab) from ⟨hn, k1⟩) (by omega) hm1 (good_Tab G1) u1) (by simp only; omega) rfl (by simp <;> omega) (by simp) (by simp [cTab, cStr, cReln, cI, cS])
  · have hall := hI.all (by omega)
    simp [hlt, s83_5, ]
    intro γ hs' h1 hg
    obtain ⟨q1, q2⟩ := gam_at hg (k := 22) (T := 128) (sz := 3) (es := ys.map cTab) (by simp)
    have q3 := gam_row hg (k := 22) (T := 128) (sz := 3) (es := ys.map cTab) (by simp)
    clear hg
    have hp : hpLL (ys.map cTab) = false := hpLL_map (fun a => by simp) ys
    simp [hp, List.take_of_length_le]
    exact ⟨⟨⟨γ 22, some (128, 3), ys⟩⟩, by simp [cDb, cS, dSl], by simp only [plDb, plS, hall], ⟨by simp only [maxLen]; show ys.length <= _; omega, hI.ok⟩, good_row (fun g hg => (q1 g hg).1) (by simpa using q2) q3 ⟨hI.good.nd, hI.good.lo⟩ hI.good.wh⟩
end Go.Proofs.YtmgphabeodaokaaGreat
namespace Go.Proofs.YtmgphabeodaokaaGreat
open Go.Vs Go.Proofs Go
set_option maxRecDepth 100000
set_option maxHeartbeats 1000000
section
attribute [local simp] plI_id plStr_id map_plI map_plStr pS cP cI cStr cU8 cB eTab eReln
theorem w_spec_SetRelation (d : PDb) (nm : List UInt8) (r : PReln) (hz : szDb d) (hst : ∀ t ∈ d.tabs, t.name.length <= maxLen) (hnm : nm.length <= maxLen) :
   VC Tryz.prog 68 [.agg ((eDb d).map V.d), .d (.str nm), .agg ((eReln r).map V.d)] (fun _ v => v = .tup [.agg ((eDb (setP d nm r)).map V.d), .d (.bool (setB d nm r))]) := by
  refine VC.ofL EP s68 (by kernel_rfl) Tryz.func68 (by rfl) (by kernel_rfl) (by simp [Tryz.f68]) (by simp [Tryz.f68]) s68_ok fun B hl => ?_
  obtain ⟨l⟩ := d
  obtain ⟨ar, rows⟩ := r
  have hl := hz.1
  simp only at hl hst
  simp [Tryz.f68, eDb]
  refine loop_ruleL (X := Nat × List PTab × Bool) (fun p _ => StI nm ⟨ar, rows⟩ l p) (fun p => [(1, .d (.str nm)), (3, .ptr 3 0 0), (5, .ptr 5 0 0), (6, .ptr 6 0 0), (8, .ptr 8 0 0), (9, .d (.bool p.2.2)), (10, .d (.int .i64 p.1))])
    (fun p => [(3, some (.box [.d (.pl (l.map eTab))])), (5, some (.box [.d (.int .i64 ar), .d (.pl (rows.map (cP cI)))])), (6, some (.box [.d (.sl none none [])])), (8, some (.box [.own 39 0 p.2.1.length])), (39, some (.row 128 3 (p.2.1.map eTab)))]) (fun p => l.length - p.1) ?_ ?_
  · refine (lead_box 8 0 39 128 3 [.d (.sl none none [])] (by omega) (by omega) (by omega) (by simp) rfl).bind ?_
    rintro _ rfl
    exact Lead.of ⟨(0, [], false), .zero, rfl, rfl, Nat.le_refl _, by simp, by simp⟩
  rintro ⟨i, o, b⟩ hs t m hI hh
  have hle := hI.le
  have hol := hI.len
  simp only at hle hol
  by_cases hlt : i < l.length
  · have hwi := wr1 (i := i) (by omega)
    have hL1 : LenOk 48 (o.length + 1) := ⟨by omega, by simp only [maxLen]; omega⟩
    have hL2 : LenOk 48 (o.length + 1 + 1) := ⟨by omega, by simp only [maxLen]; omega⟩
    obtain ⟨tn, ta, tr, hT⟩ : ∃ tn ta tr, l[i] = ⟨tn, ⟨ta, tr⟩⟩ := ⟨_, _, _, rfl⟩
    have hs1 := fun s' => hI.step (s' := s') hlt
    rw [hT] at hs1
    simp only [stS] at hs1
    refine anyQ2 fun Q => ?_
    cases b
    · cases hb : Op.bytesLess tn nm
      · by_cases he : tn = nm
        · subst he
          simp [hb] at hs1
          simp [hlt, hT, hb, hL1, hwi, ]
          exact back2 (i + 1, _, true) hs1 (by simp only; omega) rfl (by simp <;> omega) (by simp) (by simp)
        · simp [hb, he] at hs1
          simp [hlt, hT, hb, he, hL1, hL2, hwi, ]
          exact back2 (i + 1, _, true) hs1 (by simp only; omega) rfl (by simp <;> omega) (by simp) (by simp)
      · have he : ¬ tn = nm := fun e => by rw [e, bl_irr] at hb; cases hb
        simp [hb, he] at hs1
        simp [hlt, hT, hb, he, hL1, hwi, ]
        exact back2 (i + 1, _, false) hs1 (by simp only; omega) rfl (by simp <;> omega) (by simp) (by simp)
    · by_cases he : tn = nm
      · simp [he] at hs1
        simp [hlt, hT, he, hwi, ]
        exact back2 (i + 1, _, true) hs1 (by simp only; omega) rfl (by simp <;> omega) (by simp) (by simp)
      · simp [he] at hs1
        simp [hlt, hT, he, hL1, hwi, ]
        exact back2 (i + 1, _, true) hs1 (by simp only; omega) rfl (by simp <;> omega) (by simp) (by simp)
  have hd := hI.done (by omega)
  have hL1 : LenOk 48 (o.length + 1) := ⟨by omega, by simp only [maxLen]; omega⟩
  obtain ⟨x, hx⟩ : ∃ x, x = setS l nm ⟨ar, rows⟩ := ⟨_, rfl⟩
  have hxm : ∀ t ∈ x, t.name.length <= maxLen := fun t ht => by
    rw [hx] at ht
    rcases setS_mem ht with h | h
    · exact hst t h
    · rw [h]; exact hnm
  rw [<- hx] at hd
  cases b
  · simp at hd
    simp [hlt, hL1, ]
    refine call_f (w_spec_IsValidDatabase ⟨l⟩ hst) (by simp [eDb]) rfl fun hs1 hh1 => ?_
    simp at hh1
    cases h1 : dbOk ⟨l⟩
    · have hB : setB ⟨l⟩ nm ⟨ar, rows⟩ = false := by simp [setB, h1]
      simp []
      refine call_p (w_spec_l6Copy ⟨l⟩ hz) (by simp [eDb]) fun hs2 hh2 hl2 => ?_
      simp [eDb, hB, setP]
    · simp [h1, ]
      refine call_f (w_spec_IsValidDatabase ⟨x⟩ hxm) (by simp [eDb, hd, List.take_of_length_le]) rfl fun hs2 hh2 => ?_
      simp at hh2
      have hxL : setL l nm ⟨ar, rows⟩ = x := by rw [hx, setS_L h1]
      cases h2 : dbOk ⟨x⟩
      · have hB : setB ⟨l⟩ nm ⟨ar, rows⟩ = false := by simp [setB, h1, hxL, h2]
        simp []
        refine call_p (w_spec_l6Copy ⟨l⟩ hz) (by simp [eDb]) fun hs2 hh2 hl2 => ?_
        simp [eDb, hB, setP]
      · have hB : setB ⟨l⟩ nm ⟨ar, rows⟩ = true := by simp [setB, h1, hxL, h2]
        simp []
        refine call_p (w_spec_l6Copy ⟨x⟩ (szDb_ok h2)) (by simp [eDb, hd, List.take_of_length_le]) fun hs2 hh2 hl2 => ?_
        simp [eDb, hB, setP, hxL]
  · simp at hd
    simp [hlt, ]
    refine call_f (w_spec_IsValidDatabase ⟨l⟩ hst) (by simp [eDb]) rfl fun hs1 hh1 => ?_
    simp at hh1
    cases h1 : dbOk ⟨l⟩
    · have hB : setB ⟨l⟩ nm ⟨ar, rows⟩ = false := by simp [setB, h1]
      simp []
      refine call_p (w_spec_l6Copy ⟨l⟩ hz) (by simp [eDb]) fun hs2 hh2 hl2 => ?_
      simp [eDb, hB, setP]
    · simp [h1, ]
      refine call_f (w_spec_IsValidDatabase ⟨x⟩ hxm) (by simp [eDb, hd, List.take_of_length_le]) rfl fun hs2 hh2 => ?_
      simp at hh2
      have hxL : setL l nm ⟨ar, rows⟩ = x := by rw [hx, setS_L h1]
      cases h2 : dbOk ⟨x⟩
      · have hB : setB ⟨l⟩ nm ⟨ar, rows⟩ = false := by simp [setB, h1, hxL, h2]
        simp []
        refine call_p (w_spec_l6Copy ⟨l⟩ hz) (by simp [eDb]) fun hs2 hh2 hl2 => ?_
        simp [eDb, hB, setP]
      · have hB : setB ⟨l⟩ nm ⟨ar, rows⟩ = true := by simp [setB, h1, hxL, h2]
        simp []
        refine call_p (w_spec_l6Copy ⟨x⟩ (szDb_ok h2)) (by simp [eDb, hd, List.take_of_length_le]) fun hs2 hh2 hl2 => ?_
        simp [eDb, hB, setP, hxL]
end
end Go.Proofs.YtmgphabeodaokaaGreat
namespace Go.Proofs.YtmgphabeodaokaaGreat
open Go.Vs Go.Proofs Go
set_option maxRecDepth 100000
set_option maxHeartbeats 1000000
section
attribute [local simp] plI_id plStr_id map_plI map_plStr
theorem t_impl_copyDatabase (d : Db) (hd : okDb d) (hz : szDb (plDb d)) : VC Tryz.prog 83 [.agg ((cDb d).map V.d)] (fun n v => ∃ y : Db, v = .agg ((cDb y).map V.d) /\ plDb y = plDb d /\ okDb y /\ Good (cDb y) (whDb y) n) :=
  (e_impl_copyDatabase (plDb d) hz (okDb_st hd)).er (by simp [cDb, cS, dSl, eDb, pS, cP, plDb, plS, erLL_map er_cTab])
theorem t_impl_SetRelation (d : Db) (nm : List UInt8) (r : Reln) (hd : okDb d) (hz : szDb (plDb d)) (hnm : nm.length <= maxLen) (hr : szRel (plReln r)) :
   VC Tryz.prog 87 [.agg ((cDb d).map V.d), .d (.str nm), .agg ((cReln r).map V.d)]
   (fun n v => ∃ y : Db, v = .tup [.agg ((cDb y).map V.d), .d (.bool (setB (plDb d) nm (plReln r)))] /\ plDb y = setP (plDb d) nm (plReln r) /\ okDb y /\ Good (cDb y) (whDb y) n) := by
  refine VC.ofB E s87 (by kernel_rfl) Tryz.func87 (by rfl) (by kernel_rfl) (by simp [Tryz.f87]) (by simp [Tryz.f87]) s87_ok fun B hB => ?_
  have hdB : ∀ g ∈ idsL (cDb d), g < B := fun g hg => hB g (by simp only [idsVL, V.ids, idsVL_map_d, List.mem_append]; simp [hg])
  have hcopy := t_impl_copyDatabase d hd hz
  have hdp : ∃ l, plDb d = ⟨l⟩ := ⟨_, rfl⟩
  obtain ⟨l, hdp⟩ := hdp
  rw [hdp] at hz
  rw [hdp]
  have hdl : erLL (d.tabs.xs.map cTab) = l.map eTab := by
    rw [erLL_map er_cTab]
    have := congrArg PDb.tabs hdp
    simp only [plDb, plS] at this
    rw [this]
  obtain ⟨⟨did, dT, dts⟩⟩ := d
  simp only at hdl
  rw [hdp] at hcopy
  have hdB2 : ∀ φ : Nat -> Option D, (∀ i, i < B -> φ i = none) -> reV φ (.d (.sl did dT (dts.map cTab))) = .d (.sl did dT (dts.map cTab)) := fun φ h => reV_id (.d (dSl cTab ⟨did, dT, dts⟩)) fun i hi => h i (hdB i (by rw [cDb, idsL_cS]; exact hi))
  have hrB : ∀ g ∈ idsL (cReln r), g < B := fun g hg => hB g (by simp only [idsVL, V.ids, idsVL_map_d, List.mem_append]; simp [hg])
  have hcR := (e_impl_copyRelation (plReln r) hr.1 hr.2).er (As := [.agg ((cReln r).map V.d)]) (by simp [cReln, cS, cI, dSl, eReln, pS, cP, plReln, plS, plI, erLL_map (er_cS er_cI)])
  have hrp : ∃ rows, plReln r = ⟨r.ar, rows⟩ := ⟨_, rfl⟩
  obtain ⟨rows, hrp⟩ := hrp
  rw [hrp] at hr hcR
  rw [hrp]
  obtain ⟨ar, ⟨rid, rT, rxs⟩⟩ := r
  simp only at hrp hr hcR ⊢
  have hrB2 : ∀ φ : Nat -> Option D, (∀ i, i < B -> φ i = none) -> reV φ (.d (.sl rid rT (rxs.map (cS cI)))) = .d (.sl rid rT (rxs.map (cS cI))) := fun φ h => reV_id (.d (dSl (cS cI) ⟨rid, rT, rxs⟩)) fun i hi => h i (hrB i (by rw [cReln, idsL_app, idsL_cS]; exact List.mem_append.2 (.inr hi)))
  simp [Tryz.f87, s87_10, s87_10, cDb, cReln, cS, dSl, pS, cI]
  refine call_f (w_impl_IsValidDatabase ⟨l⟩) (by simp [eDb, cP, pS, hdl]) rfl fun hs1 hh1 => ?_
  simp at hh1
  cases h1 : dbOk ⟨l⟩
  · have hB0 : setB ⟨l⟩ nm ⟨ar, rows⟩ = false := by simp [setB, h1]
    simp [s87_10, ]
    refine call_some hcopy (by simp [cDb, cS, dSl]) (by simp) fun n2 hs2 r2 hn2 hm2 hp2 hr2 => ?_
    obtain ⟨⟨⟨yid, yT, ys⟩⟩, rfl, p2, k2, G2⟩ := hp2
    simp at hn2
    simp [cDb, cS, dSl, hB0, s87_10, ]
    exact ⟨⟨⟨yid, yT, ys⟩⟩, by simp [cDb, cS, dSl], by simp [setP, hB0, p2], k2, G2.le (by omega)⟩
  have hl6 : l.length <= 6 := dbOk_len h1
  simp [s87_10, ]
  refine call_some hcopy (by simp [cDb, cS, dSl]) (by simp) fun n2 hs2 r2 hn2 hm2 hp2 hr2 => ?_
  obtain ⟨⟨⟨yid, yT, ys⟩⟩, rfl, p2, k2, G2⟩ := hp2
  simp at hn2
  have hys : ys.map plTab = l := by
    have := congrArg PDb.tabs p2
    simpa [plDb, plS] using this
  have hyl : ys.length = l.length := by rw [<- hys]; simp
  have hr2' : ∀ g ∈ idsL (cDb ⟨⟨yid, yT, ys⟩⟩), g < hs2 := fun g hg => hr2 g (by rw [ids_agg]; exact hg)
  have hkl := setK_le l nm
  simp [cDb, cS, dSl, s87_10, ]
  refine loop_rule (X := Nat) (fun i => KTo l nm i) (fun i => [(1, .d (.str nm)), (3, .ptr 3 0 0), (5, .ptr 5 0 0), (6, .ptr 6 0 0), (8, .ptr 8 0 0), (9, .d (.int .i64 i))])
    (fun i => [(3, some (.box [.d (.sl did dT (dts.map cTab))])), (5, some (.box [.d (.int .i64 ar), .d (.sl rid rT (rxs.map (cS cI)))])), (6, some (.box [.d (.sl none none [])])), (8, some (.box [.d (.sl yid yT (ys.map cTab))]))]) (fun i => l.length - i) 0 .zero (by simp) (by simp) ?_
  intro i hs t m hi hh
  have hik := hi.le
  by_cases hlt : i < setK l nm
  · have hil : i < l.length := by omega
    have hiy : i < ys.length := by omega
    have hwi := wr1 (i := i) (by omega)
    have hb := setK_lt hil hlt
    obtain ⟨⟨tn, ⟨ta, ⟨tid, tT, tr⟩⟩⟩, hT⟩ : ∃ y, y = ys[i] := ⟨_, rfl⟩
    have hTn : l[i].name = tn := by
      have : l[i] = plTab ys[i] := by simp [<- hys]
      rw [this, <- hT]; rfl
    rw [hTn] at hb
    simp [hiy, hil, <- hT, hb, hwi, cTab, cReln, cStr, cI, cS, dSl, s87_10, ]
    exact back (i + 1) ⟨by omega⟩ (by omega) rfl (by simp <;> omega) (by simp) (by simp)
  have hik2 : i = setK l nm := by omega
  subst hik2
  by_cases hkt : setK l nm < l.length
  · have hb := setK_at hkt
    have hky : setK l nm < ys.length := by omega
    have hwY : Sl.wh (⟨yid, yT, ys⟩ : Sl Tab) := G2.wh.1
    obtain ⟨gg, hgg, T, hTT⟩ := hwY.id hky
    simp only at hgg hTT
    subst hgg hTT
    have hgn : n2 <= gg := G2.lo gg (by rw [cDb, idsL_cS]; exact mem_sl_ids.2 (.inl rfl))
    have hgh : gg < hs2 := hr2' gg (by rw [cDb, idsL_cS]; exact mem_sl_ids.2 (.inl rfl))
    have hsn := sl_nd (s := (⟨some gg, some T, ys⟩ : Sl Tab)) (c := cTab) (by have := G2.nd; rwa [cDb, idsL_cS] at this)
    have hgB : B <= gg := by omega
    have hgy : gg ∉ idsLL (ys.map cTab) := hsn.2 gg rfl
    obtain ⟨⟨tn, ⟨ta, ⟨tid, tT, tr⟩⟩⟩, hT⟩ : ∃ y, y = ys[setK l nm] := ⟨_, rfl⟩
    have hTn : l[setK l nm].name = tn := by
      have : l[setK l nm] = plTab ys[setK l nm] := by simp [<- hys]
      rw [this, <- hT]; rfl
    rw [hTn] at hb
    simp [hky, hkt, <- hT, hb, cTab, cReln, cStr, cI, cS, dSl, s87_10, ]
    refine call_some hcR (by simp [cReln, cS, cI, dSl]) (by simp) fun n3 hs3 r3 hn3 hm3 hp3 hr3 => ?_
    obtain ⟨⟨za, ⟨zid, zT, zs⟩⟩, rfl, p3, k3, G3⟩ := hp3
    simp at hn3
    have hr3' : ∀ g ∈ idsL (cReln ⟨za, ⟨zid, zT, zs⟩⟩), g < hs3 := fun g hg => hr3 g (by rw [ids_agg]; exact hg)
    have hgz : gg ∉ idsL (cReln ⟨za, ⟨zid, zT, zs⟩⟩) := fun h => by have := G3.lo gg h; omega
    have hgz2 : ¬ zid = some gg /\ gg ∉ idsLL (zs.map (cS cI)) := by
      rw [cReln, idsL_app, idsL_cS] at hgz
      exact ⟨fun h => hgz (List.mem_append.2 (.inr (mem_sl_ids.2 (.inl h)))), fun h => hgz (List.mem_append.2 (.inr (mem_sl_ids.2 (.inr h))))⟩
    obtain ⟨w, hw⟩ : ∃ w : Tab, w = ⟨nm, ⟨za, ⟨zid, zT, zs⟩⟩⟩ := ⟨_, rfl⟩
    have hwc : cTab w = [D.str nm, D.int .i64 za, D.sl zid zT (zs.map (cS cI))] := by rw [hw]; simp [cTab, cReln, cStr, cI, cS, dSl]
    have hwp : plTab w = ⟨nm, ⟨ar, rows⟩⟩ := by rw [hw, plTab, p3]; rfl
    have hwG : Good (cTab w) (whTab w) n3 := by rw [hw]; exact good_Tab G3
    have hwk : okTab w := by rw [hw]; exact ⟨hnm, k3⟩
    have hyi : ∀ g ∈ idsLL (ys.map cTab), n2 <= g /\ g < hs2 := fun g hg => by
      have hm : g ∈ idsL (cDb ⟨⟨some gg, some T, ys⟩⟩) := by rw [cDb, idsL_cS]; exact mem_sl_ids.2 (.inr hg)
      exact ⟨G2.lo g hm, hr2' g hm⟩
    have hL1 : LenOk 48 (setK l nm) := ⟨by omega, by simp only [maxLen]; omega⟩
    have hL2 : LenOk 48 (setK l nm + 1) := ⟨by omega, by simp only [maxLen]; omega⟩
    have hL3 : LenOk 48 (setK l nm + 1 + (ys.length - setK l nm)) := ⟨by omega, by simp only [maxLen]; omega⟩
    have hmn : min (setK l nm) ys.length = setK l nm := by omega
    by_cases he : tn = nm
    · have hh1 : hitK l nm = true := by simp [hitK, hkt, hTn, he]
      have hSL : setL l nm ⟨ar, rows⟩ = l.take (setK l nm) ++ ⟨nm, ⟨ar, rows⟩⟩ :: l.drop (setK l nm + 1) := by simp [setL, hh1]
      obtain ⟨vs, hvs⟩ : ∃ vs, vs = ys.take (setK l nm) ++ w :: ys.drop (setK l nm + 1) := ⟨_, rfl⟩
      obtain ⟨P1, P2⟩ := good_put (c := cTab) (wh := whTab) (j := setK l nm + 1) (k := setK l nm) (by omega) hsn.1 (fun g hg => ⟨(hyi g hg).1, by have := (hyi g hg).2; show g < n3; omega⟩) G2.wh.2 hwG (by omega)
      rw [<- hvs] at P1 P2
      have hvp : vs.map plTab = setL l nm ⟨ar, rows⟩ := by rw [hvs, map_put, hys, hwp, hSL]
      have hset : (ys.map cTab).set (setK l nm) (cTab w) = vs.map cTab := by
        rw [List.set_eq_take_append_cons_drop, if_pos (by simpa using hky), hvs, map_put]
      have hgv : gg ∉ idsLL (vs.map cTab) := fun h => by
        rw [hvs, List.map_append, List.map_cons, idsLL_append, idsLL] at h
        rcases List.mem_append.1 h with h | h
        · exact hgy ((ids_sub (List.take_sublist _ _)).subset h)
        · rcases List.mem_append.1 h with h | h
          · have := hwG.lo gg h; omega
          · exact hgy ((ids_sub (List.drop_sublist _ _)).subset h)
      have hvk : ∀ t ∈ vs, okTab t := fun t ht => by
        rw [hvs] at ht
        rcases List.mem_append.1 ht with h | h
        · exact k2.2 t (List.mem_of_mem_take h)
        · rcases List.mem_cons.1 h with rfl | h
          · exact hwk
          · exact k2.2 t (List.mem_of_mem_drop h)
      have hvl : vs.length = ys.length := by rw [hvs]; simp; omega
      simp [hky, hkt, <- hT, he, cTab, cReln, cStr, cI, cS, dSl, s87_10, ]
      refine ⟨⟨hgB, hgz2, hgy⟩, ?_⟩
      rw [<- hwc, hset]
      have e1 : ∀ d', reV (one gg d') (.d (.sl did dT (dts.map cTab))) = .d (.sl did dT (dts.map cTab)) := fun d' => hdB2 _ fun i hi => one_out (by omega)
      have e2 : ∀ d', reV (one gg d') (.d (.sl zid zT (zs.map (cS cI)))) = .d (.sl zid zT (zs.map (cS cI))) := fun d' => reV_id (.d (dSl (cS cI) ⟨zid, zT, zs⟩)) fun i hi => one_out (fun e => by
        subst e
        rcases mem_sl_ids.1 hi with h | h
        · exact hgz2.1 h
        · exact hgz2.2 h)
      have e3 : ∀ d', reV (one gg d') (.d (.sl rid rT (rxs.map (cS cI)))) = .d (.sl rid rT (rxs.map (cS cI))) := fun d' => hrB2 _ fun i hi => one_out (by omega)
      simp only [e1, e2, e3]
      refine call_f (w_impl_IsValidDatabase ⟨vs.map plTab⟩) (by simp [eDb, cP, pS, erLL_map er_cTab]) rfl fun hs4 hh4 => ?_
      simp at hh4
      rw [hvp]
      cases h4 : dbOk ⟨setL l nm ⟨ar, rows⟩⟩
      · have hB0 : setB ⟨l⟩ nm ⟨ar, rows⟩ = false := by simp [setB, h4]
        simp [s87_10, ]
        refine call_some hcopy (by simp [cDb, cS, dSl]) (by simp) fun n5 hs5 r5 hn5 hm5 hp5 hr5 => ?_
        obtain ⟨⟨⟨uid, uT, us⟩⟩, rfl, p5, k5, G5⟩ := hp5
        simp at hn5
        simp [cDb, cS, dSl, hB0, s87_10, ]
        exact ⟨⟨⟨uid, uT, us⟩⟩, by simp [cDb, cS, dSl], by simp [setP, hB0, p5], k5, G5.le (by omega)⟩
      · have hB1 : setB ⟨l⟩ nm ⟨ar, rows⟩ = true := by simp [setB, h1, h4]
        simp [hB1, s87_10, ]
        refine ⟨⟨⟨some gg, some T, vs⟩⟩, by simp [cDb, cS, dSl], by simp only [setP, hB1, if_true, plDb, plS, hvp], ⟨by simp only [maxLen]; show vs.length <= _; omega, hvk⟩, good_row (fun g hg => by obtain rfl := Option.some.inj hg; exact hgB) (by simp) (fun g hg => by obtain rfl := Option.some.inj hg; exact hgv) ⟨P1.1, fun g hg => by have := P1.2 g hg; omega⟩ P2⟩
    · have hh1 : hitK l nm = false := by simp [hitK, hkt, hTn, he]
      have hSL : setL l nm ⟨ar, rows⟩ = l.take (setK l nm) ++ ⟨nm, ⟨ar, rows⟩⟩ :: l.drop (setK l nm) := by simp [setL, hh1]
      obtain ⟨vs, hvs⟩ : ∃ vs, vs = ys.take (setK l nm) ++ w :: ys.drop (setK l nm) := ⟨_, rfl⟩
      simp [hky, hkt, <- hT, he, hmn, hL1, hL2, hL3, cTab, cReln, cStr, cI, cS, dSl, <- List.map_take, <- List.map_drop, List.take_of_length_le, s87_10, ]
      obtain ⟨P1, P2⟩ := good_put (c := cTab) (wh := whTab) (j := setK l nm) (k := setK l nm) (Nat.le_refl _) hsn.1 (fun g hg => ⟨(hyi g hg).1, by have := (hyi g hg).2; show g < n3; omega⟩) G2.wh.2 hwG (by omega)
      rw [<- hvs] at P1 P2
      have hvp : vs.map plTab = setL l nm ⟨ar, rows⟩ := by rw [hvs, map_put, hys, hwp, hSL]
      have hvk : ∀ t ∈ vs, okTab t := fun t ht => by
        rw [hvs] at ht
        rcases List.mem_append.1 ht with h | h
        · exact k2.2 t (List.mem_of_mem_take h)
        · rcases List.mem_cons.1 h with rfl | h
          · exact hwk
          · exact k2.2 t (List.mem_of_mem_drop h)
      have hvl : vs.length = ys.length + 1 := by rw [hvs]; simp; omega
      have hpV : hpLL (vs.map cTab) = false := hpLL_map (fun a => by simp) vs
      refine ⟨by omega, ?_⟩
      have hrow : List.map cTab (List.take (setK l nm) ys) ++ [D.str nm, D.int .i64 za, D.sl zid zT (zs.map (cS cI))] :: List.map cTab (List.drop (setK l nm) ys) = vs.map cTab := by rw [hvs, <- hwc]; simp
      have hnum : setK l nm + 1 + (ys.length - setK l nm) = ys.length + 1 := by omega
      repeat' apply And.intro
      all_goals
        simp only [hrow, hnum]
        refine call_own (by simp) (fun γ n hn hg => ⟨[.agg [.d (.sl (γ 59) (some (128, 3)) (vs.map cTab))]], by simp [hvl, hpV, List.take_of_length_le], (w_impl_IsValidDatabase ⟨vs.map plTab⟩).er (by simp [eDb, cP, pS, erLL_map er_cTab])⟩) (by rintro n _ rfl; simp [V.ids, D.ids, V.hp, D.hp]) fun n4 hs4 r4 hh4 hm4 hp4 hr4 => ?_
        subst hp4
        clear hr4
        simp at hh4
        rw [hvp]
        cases h4 : dbOk ⟨setL l nm ⟨ar, rows⟩⟩
        · have hB0 : setB ⟨l⟩ nm ⟨ar, rows⟩ = false := by simp [setB, h4]
          simp [s87_10, ]
          refine call_some hcopy (by simp [cDb, cS, dSl]) (by simp) fun n5 hs5 r5 hn5 hm5 hp5 hr5 => ?_
          obtain ⟨⟨⟨uid, uT, us⟩⟩, rfl, p5, k5, G5⟩ := hp5
          simp at hn5
          simp [cDb, cS, dSl, hB0, s87_10, ]
          exact ⟨⟨⟨uid, uT, us⟩⟩, by simp [cDb, cS, dSl], by simp [setP, hB0, p5], k5, G5.le (by omega)⟩
        · have hB1 : setB ⟨l⟩ nm ⟨ar, rows⟩ = true := by simp [setB, h1, h4]
          simp [hB1, s87_10, ]
          intro γ hs' h1' hg
          obtain ⟨q1, q2⟩ := gam_at hg (k := 59) (T := 128) (sz := 3) (es := vs.map cTab) (by simp)
          have q3 := gam_row hg (k := 59) (T := 128) (sz := 3) (es := vs.map cTab) (by simp)
          clear hg
          have hp : hpLL (vs.map cTab) = false := hpLL_map (fun a => by simp) vs
          simp [hp, hvl, List.take_of_length_le]
          exact ⟨⟨⟨γ 59, some (128, 3), vs⟩⟩, by simp [cDb, cS, dSl], by simp only [setP, hB1, if_true, plDb, plS, hvp], ⟨by simp only [maxLen]; show vs.length <= _; omega, hvk⟩, good_row (fun g hg => (q1 g hg).1) (by simpa using q2) q3 ⟨P1.1, fun g hg => by have := P1.2 g hg; omega⟩ P2⟩
  · have hkn : setK l nm = l.length := by omega
    have hL1 : LenOk 48 l.length := ⟨by omega, by simp only [maxLen]; omega⟩
    have hL2 : LenOk 48 (l.length + 1) := ⟨by omega, by simp only [maxLen]; omega⟩
    simp [hkn, hyl, cReln, cI, cS, dSl, s87_10, ]
    refine call_some hcR (by simp [cReln, cS, cI, dSl]) (by simp) fun n3 hs3 r3 hn3 hm3 hp3 hr3 => ?_
    obtain ⟨⟨za, ⟨zid, zT, zs⟩⟩, rfl, p3, k3, G3⟩ := hp3
    simp at hn3
    have hr3' : ∀ g ∈ idsL (cReln ⟨za, ⟨zid, zT, zs⟩⟩), g < hs3 := fun g hg => hr3 g (by rw [ids_agg]; exact hg)
    obtain ⟨w, hw⟩ : ∃ w : Tab, w = ⟨nm, ⟨za, ⟨zid, zT, zs⟩⟩⟩ := ⟨_, rfl⟩
    have hwc : cTab w = [D.str nm, D.int .i64 za, D.sl zid zT (zs.map (cS cI))] := by rw [hw]; simp [cTab, cReln, cStr, cI, cS, dSl]
    have hwp : plTab w = ⟨nm, ⟨ar, rows⟩⟩ := by rw [hw, plTab, p3]; rfl
    have hwG : Good (cTab w) (whTab w) n3 := by rw [hw]; exact good_Tab G3
    have hwk : okTab w := by rw [hw]; exact ⟨hnm, k3⟩
    have hyi : ∀ g ∈ idsLL (ys.map cTab), n2 <= g /\ g < hs2 := fun g hg => by
      have hm : g ∈ idsL (cDb ⟨⟨yid, yT, ys⟩⟩) := by rw [cDb, idsL_cS]; exact mem_sl_ids.2 (.inr hg)
      exact ⟨G2.lo g hm, hr2' g hm⟩
    have hh1 : hitK l nm = false := by simp [hitK, hkt]
    have hSL : setL l nm ⟨ar, rows⟩ = l.take l.length ++ ⟨nm, ⟨ar, rows⟩⟩ :: l.drop l.length := by simp [setL, hh1, hkn]
    obtain ⟨vs, hvs⟩ : ∃ vs, vs = ys.take l.length ++ w :: ys.drop l.length := ⟨_, rfl⟩
    obtain ⟨P1, P2⟩ := good_put (c := cTab) (wh := whTab) (j := l.length) (k := l.length) (Nat.le_refl _) (sl_nd (s := (⟨yid, yT, ys⟩ : Sl Tab)) (c := cTab) (by have := G2.nd; rwa [cDb, idsL_cS] at this)).1 (fun g hg => ⟨(hyi g hg).1, by have := (hyi g hg).2; show g < n3; omega⟩) G2.wh.2 hwG (by omega)
    rw [<- hvs] at P1 P2
    have hvp : vs.map plTab = setL l nm ⟨ar, rows⟩ := by rw [hvs, map_put, hys, hwp, hSL]
    have hvk : ∀ t ∈ vs, okTab t := fun t ht => by
      rw [hvs] at ht
      rcases List.mem_append.1 ht with h | h
      · exact k2.2 t (List.mem_of_mem_take h)
      · rcases List.mem_cons.1 h with rfl | h
        · exact hwk
        · exact k2.2 t (List.mem_of_mem_drop h)
    have hvl : vs.length = ys.length + 1 := by rw [hvs]; simp; omega
    have hpV : hpLL (vs.map cTab) = false := hpLL_map (fun a => by simp) vs
    have hrow : List.map cTab (List.take l.length ys) ++ [[D.str nm, D.int .i64 za, D.sl zid zT (zs.map (cS cI))]] = vs.map cTab := by rw [hvs, <- hwc]; simp [<- hyl]
    have hnum : l.length + 1 = ys.length + 1 := by omega
    simp [hkn, hyl, hL1, hL2, cTab, cReln, cStr, cI, cS, dSl, <- List.map_take, s87_10, ]
    repeat' apply And.intro
    all_goals
      simp only [hrow, hnum]
      refine call_own (by simp) (fun γ n hn hg => ⟨[.agg [.d (.sl (γ 59) (some (128, 3)) (vs.map cTab))]], by simp [hvl, hpV, List.take_of_length_le], (w_impl_IsValidDatabase ⟨vs.map plTab⟩).er (by simp [eDb, cP, pS, erLL_map er_cTab])⟩) (by rintro n _ rfl; simp [V.ids, D.ids, V.hp, D.hp]) fun n4 hs4 r4 hh4 hm4 hp4 hr4 => ?_
      subst hp4
      clear hr4
      simp at hh4
      rw [hvp]
      cases h4 : dbOk ⟨setL l nm ⟨ar, rows⟩⟩
      · have hB0 : setB ⟨l⟩ nm ⟨ar, rows⟩ = false := by simp [setB, h4]
        simp [s87_10, ]
        refine call_some hcopy (by simp [cDb, cS, dSl]) (by simp) fun n5 hs5 r5 hn5 hm5 hp5 hr5 => ?_
        obtain ⟨⟨⟨uid, uT, us⟩⟩, rfl, p5, k5, G5⟩ := hp5
        simp at hn5
        simp [cDb, cS, dSl, hB0, s87_10, ]
        exact ⟨⟨⟨uid, uT, us⟩⟩, by simp [cDb, cS, dSl], by simp [setP, hB0, p5], k5, G5.le (by omega)⟩
      · have hB1 : setB ⟨l⟩ nm ⟨ar, rows⟩ = true := by simp [setB, h1, h4]
        simp [hB1, s87_10, ]
        intro γ hs' h1' hg
        obtain ⟨q1, q2⟩ := gam_at hg (k := 59) (T := 128) (sz := 3) (es := vs.map cTab) (by simp)
        have q3 := gam_row hg (k := 59) (T := 128) (sz := 3) (es := vs.map cTab) (by simp)
        clear hg
        have hp : hpLL (vs.map cTab) = false := hpLL_map (fun a => by simp) vs
        simp [hp, hvl, List.take_of_length_le]
        exact ⟨⟨⟨γ 59, some (128, 3), vs⟩⟩, by simp [cDb, cS, dSl], by simp only [setP, hB1, if_true, plDb, plS, hvp], ⟨by simp only [maxLen]; show vs.length <= _; omega, hvk⟩, good_row (fun g hg => (q1 g hg).1) (by simpa using q2) q3 ⟨P1.1, fun g hg => by have := P1.2 g hg; omega⟩ P2⟩
end
end Go.Proofs.YtmgphabeodaokaaGreat
namespace Go.Proofs.YtmgphabeodaokaaGreat
open Go.Vs Go.Proofs Go
set_option maxRecDepth 100000
set_option maxHeartbeats 1000000
section
attribute [local simp] plI_id plStr_id map_plI map_plStr pS cP cI cStr cU8 cB eTab eReln eDelta
theorem w_spec_ApplyDelta (d : PDb) (x : PDelta) (hz : szDb d) (hst : ∀ t ∈ d.tabs, t.name.length <= maxLen) (hnm : x.name.length <= maxLen) :
   VC Tryz.prog 18 [.agg ((eDb d).map V.d), .agg ((eDelta x).map V.d)] (fun _ v => v = .tup [.agg ((eDb (appP d x)).map V.d), .d (.bool (appB d x))]) := by
  refine VC.ofL EP s18 (by kernel_rfl) Tryz.func18 (by rfl) (by kernel_rfl) (by simp [Tryz.f18]) (by simp [Tryz.f18]) s18_ok fun B hl => ?_
  obtain ⟨nm, ⟨ia, il⟩, ⟨da, dl⟩⟩ := x
  obtain ⟨X, hX⟩ : ∃ X : PDelta, X = ⟨nm, ⟨ia, il⟩, ⟨da, dl⟩⟩ := ⟨_, rfl⟩
  rw [<- hX]
  have hXn : X.name = nm := by rw [hX]
  obtain ⟨l⟩ := d
  simp [Tryz.f18, eDb]
  refine call_p (w_spec_NormalizeDelta ⟨l⟩ X hst) (by simp [eDb, hX]) fun hs1 hh1 hl1 => ?_
  simp at hh1
  obtain ⟨⟨yn, ⟨ya, yi⟩, ⟨yb, yd⟩⟩, hY⟩ : ∃ Y, Y = norP ⟨l⟩ X := ⟨_, rfl⟩
  rw [<- hY]
  cases h1 : fitB ⟨l⟩ X
  · have hG : appG ⟨l⟩ X = false := by simp [appG, h1]
    simp []
    refine call_p (w_spec_l6Copy ⟨l⟩ hz) (by simp [eDb]) fun hs2 hh2 hl2 => ?_
    simp [eDb, appP, appB, hG]
  simp []
  refine call_p (w_spec_LookupRelation ⟨l⟩ nm hst) (by simp [eDb, hX]) fun hs2 hh2 hl2 => ?_
  simp at hh2
  obtain ⟨⟨ra, rl⟩, hR⟩ : ∃ R, R = lkR ⟨l⟩ nm := ⟨_, rfl⟩
  rw [<- hR]
  simp []
  refine call_p (w_spec_Difference ⟨ra, rl⟩ ⟨yb, yd⟩) (by simp) fun hs3 hh3 hl3 => ?_
  simp at hh3
  have hD : difR ⟨ra, rl⟩ ⟨yb, yd⟩ = difD ⟨l⟩ X := by rw [difD, <- hY, hXn, <- hR]
  rw [hD]
  obtain ⟨⟨ea, el⟩, hE⟩ : ∃ E, E = difD ⟨l⟩ X := ⟨_, rfl⟩
  rw [<- hE]
  simp []
  refine call_p (w_spec_Union ⟨ea, el⟩ ⟨ya, yi⟩) (by simp) fun hs4 hh4 hl4 => ?_
  simp at hh4
  have hU : uniR ⟨ea, el⟩ ⟨ya, yi⟩ = appU ⟨l⟩ X := by rw [appU, <- hY, hE]
  rw [hU]
  obtain ⟨⟨ua, ul⟩, hV⟩ : ∃ E, E = appU ⟨l⟩ X := ⟨_, rfl⟩
  rw [<- hV]
  have hG : appG ⟨l⟩ X = uniB ⟨ea, el⟩ ⟨ya, yi⟩ := by rw [appG, h1, <- hY, hE, Bool.true_and]
  cases h2 : uniB ⟨ea, el⟩ ⟨ya, yi⟩
  · rw [h2] at hG
    simp []
    refine call_p (w_spec_l6Copy ⟨l⟩ hz) (by simp [eDb]) fun hs5 hh5 hl5 => ?_
    simp [eDb, appP, appB, hG]
  · rw [h2] at hG
    simp []
    refine call_p (w_spec_SetRelation ⟨l⟩ nm ⟨ua, ul⟩ hz hst hnm) (by simp [eDb, hX]) fun hs5 hh5 hl5 => ?_
    simp [eDb, appP, appB, hG, <- hV, hXn]
end
section
attribute [local simp] plI_id plStr_id map_plI map_plStr
theorem t_impl_ApplyDelta (d : Db) (x : Delta) (hd : okDb d) (hx : okDelta x) (hz : szDb (plDb d)) :
   VC Tryz.prog 33 [.agg ((cDb d).map V.d), .agg ((cDelta x).map V.d)]
   (fun n v => ∃ y : Db, v = .tup [.agg ((cDb y).map V.d), .d (.bool (appB (plDb d) (plDelta x)))] /\ plDb y = appP (plDb d) (plDelta x) /\ okDb y /\ Good (cDb y) (whDb y) n) := by
  refine VC.of E s33 (by kernel_rfl) Tryz.func33 (by rfl) (by kernel_rfl) (by simp [Tryz.f33]) (by simp [Tryz.f33]) s33_ok fun B => ?_
  have hcopy := t_impl_copyDatabase d hd hz
  have hnorm := t_impl_NormalizeDelta d x hd hx
  obtain ⟨dp, hdp⟩ : ∃ dp, dp = plDb d := ⟨_, rfl⟩
  have hdl : erLL (d.tabs.xs.map cTab) = dp.tabs.map eTab := by rw [erLL_map er_cTab, hdp]; rfl
  have hset := fun r hr => t_impl_SetRelation d x.name r hd hz hx.1 hr
  obtain ⟨X, hX⟩ : ∃ X, X = plDelta x := ⟨_, rfl⟩
  have hXn : X.name = x.name := by rw [hX]; simp [plDelta]
  rw [<- hdp, <- hX] at hnorm ⊢
  rw [<- hdp] at hcopy hset
  obtain ⟨⟨did, dT, dts⟩⟩ := d
  obtain ⟨nm, ⟨ia, ⟨iid, iT, il⟩⟩, ⟨da, ⟨did2, dT2, dl⟩⟩⟩ := x
  simp only at hdl hset hXn
  simp [Tryz.f33, cDb, cDelta, cReln, cStr, cS, cI, dSl]
  refine call_some hnorm (by simp [cDb, cDelta, cReln, cStr, cS, cI, dSl]) (by simp) fun n1 hs1 r1 hn1 hm1 hp1 hr1 => ?_
  obtain ⟨⟨yn, yi, ⟨yb, ⟨ydid, ydT, yd⟩⟩⟩, rfl, p1, k1, G1⟩ := hp1
  simp at hn1
  obtain ⟨ya, ⟨yiid, yiT, yil⟩⟩ := yi
  cases h1 : fitB dp X
  · have hG : appG dp X = false := by simp [appG, h1]
    simp [cDb, cDelta, cReln, cStr, cS, cI, dSl, ]
    refine call_some hcopy (by simp [cDb, cS, dSl]) (by simp) fun n2 hs2 r2 hn2 hm2 hp2 hr2 => ?_
    obtain ⟨⟨⟨vid, vT, vs⟩⟩, rfl, p2, k2, G2⟩ := hp2
    simp at hn2
    simp [cDb, cS, dSl, appB, appP, hG, ]
    exact ⟨⟨⟨vid, vT, vs⟩⟩, by simp [cDb, cS, dSl], p2, k2, G2.le (by omega)⟩
  simp [cDb, cDelta, cReln, cStr, cS, cI, dSl, ]
  refine call_p (w_impl_LookupRelation dp nm) (by simp [eDb, cP, pS, hdl]) fun hs2 hh2 hl2 => ?_
  simp at hh2
  obtain ⟨⟨ra, rl⟩, hR⟩ : ∃ R, R = lkR dp nm := ⟨_, rfl⟩
  rw [<- hR]
  simp [eReln, cI, cP, pS, ]
  refine call_p (q_impl_Difference ⟨ra, rl⟩ ⟨yb, yd.map (plS plI)⟩) (by simp [eReln, cI, cP, pS, erLL_map (er_cS er_cI)]) fun hs3 hh3 hl3 => ?_
  simp at hh3
  have hD : difR ⟨ra, rl⟩ ⟨yb, yd.map (plS plI)⟩ = difD dp X := by rw [difD, <- p1, hXn, <- hR]; rfl
  rw [hD]
  obtain ⟨⟨ea, el⟩, hE⟩ : ∃ E, E = difD dp X := ⟨_, rfl⟩
  rw [<- hE]
  simp [eReln, cI, cP, pS, ]
  refine call_some (e_impl_Union ⟨ea, el⟩ ⟨ya, ⟨yiid, yiT, yil⟩⟩ k1.2.1) (by simp [eReln, cReln, cS, cI, cP, pS, dSl]) (by simp) fun n4 hs4 r4 hn4 hm4 hp4 hr4 => ?_
  obtain ⟨⟨ua, ⟨uid, uT, ul⟩⟩, rfl, p4, k4, G4⟩ := hp4
  simp at hn4
  have hU : uniR ⟨ea, el⟩ (plReln ⟨ya, ⟨yiid, yiT, yil⟩⟩) = appU dp X := by rw [appU, <- p1, hE]; rfl
  have hG : appG dp X = uniB ⟨ea, el⟩ (plReln ⟨ya, ⟨yiid, yiT, yil⟩⟩) := by rw [appG, h1, <- p1, hE, Bool.true_and]; rfl
  cases h2 : uniB ⟨ea, el⟩ (plReln ⟨ya, ⟨yiid, yiT, yil⟩⟩)
  · rw [h2] at hG
    simp [cReln, cI, cS, dSl, ]
    refine call_some hcopy (by simp [cDb, cS, dSl]) (by simp) fun n5 hs5 r5 hn5 hm5 hp5 hr5 => ?_
    obtain ⟨⟨⟨vid, vT, vs⟩⟩, rfl, p5, k5, G5⟩ := hp5
    simp at hn5
    simp [cDb, cS, dSl, appB, appP, hG, ]
    exact ⟨⟨⟨vid, vT, vs⟩⟩, by simp [cDb, cS, dSl], p5, k5, G5.le (by omega)⟩
  · rw [h2] at hG
    have hsz := uniR_ok h2
    rw [<- p4] at hsz
    simp [cReln, cI, cS, dSl, ]
    refine call_some (hset ⟨ua, ⟨uid, uT, ul⟩⟩ hsz) (by simp [cDb, cReln, cI, cS, dSl]) (by simp) fun n5 hs5 r5 hn5 hm5 hp5 hr5 => ?_
    obtain ⟨⟨⟨vid, vT, vs⟩⟩, rfl, p5, k5, G5⟩ := hp5
    simp at hn5
    have hUp : plReln ⟨ua, ⟨uid, uT, ul⟩⟩ = appU dp X := by rw [p4, hU]
    rw [hUp] at p5 ⊢
    simp [cDb, cS, dSl, appB, appP, hG, hXn, ]
    exact ⟨⟨⟨vid, vT, vs⟩⟩, by simp [cDb, cS, dSl], p5, k5, G5.le (by omega)⟩
end
end Go.Proofs.YtmgphabeodaokaaGreat
namespace Go.Proofs.YtmgphabeodaokaaGreat
open Go.Vs Go.Proofs Go
set_option maxRecDepth 100000
set_option maxHeartbeats 1000000
section
attribute [local simp] plI_id plStr_id map_plI map_plStr pS cP cI cStr cU8 cB
end
end Go.Proofs.YtmgphabeodaokaaGreat
namespace Go.Proofs.YtmgphabeodaokaaGreat
open Go.Vs Go.Proofs Go
set_option maxRecDepth 100000
set_option maxHeartbeats 1000000
section
attribute [local simp] plI_id plStr_id map_plI map_plStr
end
end Go.Proofs.YtmgphabeodaokaaGreat
namespace Go.Proofs.YtmgphabeodaokaaGreat
open Go.Vs Go.Proofs Go
set_option maxRecDepth 100000
set_option maxHeartbeats 1000000
theorem t_impl_CountedFromRelation (a : Reln) (ha : okReln a) : VC Tryz.prog 70 [.agg ((cReln a).map V.d)]
   (fun n r => ∃ y : Cnt, r = .tup [.agg ((cCnt y).map V.d), .d (.bool (rowsOk (plReln a).ar (plReln a).rows))] /\ plCnt y = cntOf (plReln a) /\ okCnt y /\ Good (cCnt y) (whCnt y) n) := by
  refine VC.of E s70 (by kernel_rfl) Tryz.func70 (by rfl) (by kernel_rfl) (by simp [Tryz.f70]) (by simp [Tryz.f70]) s70_ok fun B => ?_
  simp [Tryz.f70, s70_3, cReln, cS, cI]
  refine call_f (w_impl_IsValidRelation (plReln a)) (by simp [eReln, er_SI, plI]) rfl fun hs0 hh0 => ?_
  simp at hh0
  cases h1 : rowsOk a.ar (plS (plS plI) a.rows)
  · have h1' : rowsOk (plReln a).ar (plReln a).rows = false := h1
    simp [h1, plI]
    exact ⟨⟨0, nilS, nilS⟩, by simp [cCnt, nilS, cS, dSl], by simp only [cntOf, h1']; rfl, ⟨trivial, ok_nilS, ok_nilS⟩, good_Cnt0 B⟩
  have h1' : rowsOk (plReln a).ar (plReln a).rows = true := h1
  have hlen := rowsOk_len h1
  have hrow := rowsOk_row h1
  have hl1 : a.rows.xs.length <= 4000 := by simpa [plS] using hlen
  have hl2 : ∀ r ∈ a.rows.xs, r.xs.length <= 4294967296 := fun r hr => by
    have := hrow (plS plI r) (List.mem_map_of_mem hr)
    simp [plS] at this; omega
  simp [h1, s70_3, ]
  repeat' apply And.intro
  all_goals
    refine call_some (w_impl_copyRows a.rows ha.2 (by omega) hl2) rfl (by simp) fun n1 hs1 r1 hn1 hm1 hp1 hr1 => ?_
    obtain ⟨y1, rfl, p1, k1, G1⟩ := hp1
    have u1 : ∀ g ∈ idsL (cS (cS cI) y1), g < hs1 := fun g hg => hr1 g (by rw [idsL_cS] at hg; exact hg)
    simp at hn1
    have hy1 : y1.xs.length = a.rows.xs.length := by have := congrArg List.length p1; simpa [plS] using this
    simp [cS, cI, dSl, s70_3, ]
    refine loop_ruleL (X := Nat) (fun i _ => i <= a.rows.xs.length) (fun i => [(2, .ptr 2 0 0), (4, .ptr 4 0 0), (17, .d (.int .i64 a.rows.xs.length)), (18, .d (.int .i64 i))])
      (fun i => [(2, some (.box [.d (.int .i64 0), .d (.sl none none []), .d (.sl none none [])])), (4, some (.box [.d (.int .i64 a.ar), .d (dSl (cS cI) y1), .own 23 0 i])), (23, some (.row 3 1 ((List.replicate i 1).map cI)))]) (fun i => a.rows.xs.length - i) ?_ ?_
    · refine (lead_box 4 2 23 3 1 [.d (.int .i64 a.ar), .d (dSl (cS cI) y1), .d (.sl none none [])] (by omega) (by omega) (by omega) (by simp [dSl]) rfl).bind ?_
      rintro _ rfl
      exact Lead.of ⟨0, by simp, rfl, rfl, Nat.le_refl _, by simp, by simp [dSl]⟩
    · intro i hs t m hi hh
      by_cases hlt : i < a.rows.xs.length
      · have hwi := wr1 (i := i) (by omega)
        have hL : LenOk 8 (i + 1) := ⟨by omega, by simp only [maxLen]; omega⟩
        simp [hlt, hwi, hL, s70_3, ]
        refine back2 (i + 1) (by omega) (by omega) rfl (by simp) (by simp) ?_
        simp [List.replicate_succ']
      · have hn : i = a.rows.xs.length := by omega
        subst hn
        simp [List.take_of_length_le]
        intro γ hs' h2 hg
        obtain ⟨q1, q2⟩ := gam_at hg (k := 23) (T := 3) (sz := 1) (es := (List.replicate a.rows.xs.length 1).map cI) (by simp)
        have qf : ∀ g, γ 23 = some g -> g ∉ (dSl (cS cI) y1).ids := fun g hγ => by
          have hb := (hg.fr 23 3 1 _ g (by simp; rfl) hγ).1.box 4 [.d (.int .i64 a.ar), .d (dSl (cS cI) y1), .own 23 0 a.rows.xs.length] (by simp)
          simpa [V.ids, idsVL, D.ids, idsLL] using hb
        clear hg
        refine ⟨⟨a.ar, y1, ⟨γ 23, some (3, 1), List.replicate a.rows.xs.length 1⟩⟩, by simp [cCnt, cS, cI, dSl, h1], ?_, ⟨trivial, k1, ⟨by simp only [maxLen, List.length_replicate]; omega, fun _ _ => trivial⟩⟩, good_Cnt G1 (by omega) (fun g hg => (q1 g hg).1) (by simpa using q2) qf⟩
        simp only [cntOf, h1', plCnt]
        simp [plS, plReln] at p1 ⊢
        exact p1
end Go.Proofs.YtmgphabeodaokaaGreat
