/-
  P6B1: a part of a proof of this seat: the value-level semantics of Go code without maps, its walk rules, the frame of a row, facts of types, schedules, walks, plain lemmas (Facts1 Sched1 H0 HP1 HP2 H1 HP3 P1 P1b P1c P1d P1e Q1 Q2). It holds of every program and state that its hypotheses name.
-/
import Derived.Test.YtggbpdjjlgejmaaGreatP6A4
import Derived.Test.YtggbpdjjlgejmaaGreatProg
import Derived.KernelRfl
set_option linter.unusedSimpArgs false
set_option linter.unusedVariables false
set_option linter.unnecessarySimpa false
namespace Go.Proofs.YtggbpdjjlgejmaaGreat
open Go.Vs Go.Proofs

theorem tsz3 : tsz Tryz.prog 3 = some 1 := by kernel_rfl
theorem tsz4 : tsz Tryz.prog 4 = some 1 := by kernel_rfl
theorem tsz9 : tsz Tryz.prog 9 = some 1 := by kernel_rfl
theorem tsz22 : tsz Tryz.prog 22 = some 1 := by kernel_rfl
theorem tsz24 : tsz Tryz.prog 24 = some 1 := by kernel_rfl
theorem tsz25 : tsz Tryz.prog 25 = some 1 := by kernel_rfl
theorem tsz26 : tsz Tryz.prog 26 = some 1 := by kernel_rfl
theorem tsz28 : tsz Tryz.prog 28 = some 3 := by kernel_rfl
theorem tsz31 : tsz Tryz.prog 31 = some 1 := by kernel_rfl
theorem tsz33 : tsz Tryz.prog 33 = some 3 := by kernel_rfl
theorem tsz34 : tsz Tryz.prog 34 = some 1 := by kernel_rfl
theorem tsz36 : tsz Tryz.prog 36 = some 3 := by kernel_rfl
theorem tsz38 : tsz Tryz.prog 38 = some 6 := by kernel_rfl
theorem tsz41 : tsz Tryz.prog 41 = some 1 := by kernel_rfl
theorem tsz43 : tsz Tryz.prog 43 = some 1 := by kernel_rfl
theorem tsz54 : tsz Tryz.prog 54 = some 2 := by kernel_rfl
theorem tsz56 : tsz Tryz.prog 56 = some 5 := by kernel_rfl
theorem tsz60 : tsz Tryz.prog 60 = some 2 := by kernel_rfl
theorem tsz62 : tsz Tryz.prog 62 = some 5 := by kernel_rfl
theorem tsz69 : tsz Tryz.prog 69 = some 3 := by kernel_rfl
theorem tsz71 : tsz Tryz.prog 71 = some 6 := by kernel_rfl
theorem tsz119 : tsz Tryz.prog 119 = some 3 := by kernel_rfl
theorem tsz122 : tsz Tryz.prog 122 = some 2 := by kernel_rfl
theorem tsz125 : tsz Tryz.prog 125 = some 2 := by kernel_rfl
theorem tsz127 : tsz Tryz.prog 127 = some 3 := by kernel_rfl
theorem tsz131 : tsz Tryz.prog 131 = some 3 := by kernel_rfl
theorem tagg3 : tagg Tryz.prog 3 = some false := by kernel_rfl
theorem tagg4 : tagg Tryz.prog 4 = some false := by kernel_rfl
theorem tagg9 : tagg Tryz.prog 9 = some false := by kernel_rfl
theorem tagg22 : tagg Tryz.prog 22 = some false := by kernel_rfl
theorem tagg24 : tagg Tryz.prog 24 = some true := by kernel_rfl
theorem tagg25 : tagg Tryz.prog 25 = some false := by kernel_rfl
theorem tagg26 : tagg Tryz.prog 26 = some false := by kernel_rfl
theorem tagg28 : tagg Tryz.prog 28 = some true := by kernel_rfl
theorem tagg31 : tagg Tryz.prog 31 = some false := by kernel_rfl
theorem tagg33 : tagg Tryz.prog 33 = some true := by kernel_rfl
theorem tagg34 : tagg Tryz.prog 34 = some false := by kernel_rfl
theorem tagg36 : tagg Tryz.prog 36 = some true := by kernel_rfl
theorem tagg38 : tagg Tryz.prog 38 = some true := by kernel_rfl
theorem tagg41 : tagg Tryz.prog 41 = some false := by kernel_rfl
theorem tagg43 : tagg Tryz.prog 43 = some true := by kernel_rfl
theorem tagg54 : tagg Tryz.prog 54 = some true := by kernel_rfl
theorem tagg56 : tagg Tryz.prog 56 = some true := by kernel_rfl
theorem tagg60 : tagg Tryz.prog 60 = some true := by kernel_rfl
theorem tagg62 : tagg Tryz.prog 62 = some true := by kernel_rfl
theorem tagg69 : tagg Tryz.prog 69 = some true := by kernel_rfl
theorem tagg71 : tagg Tryz.prog 71 = some true := by kernel_rfl
theorem tagg119 : tagg Tryz.prog 119 = some true := by kernel_rfl
theorem tagg122 : tagg Tryz.prog 122 = some true := by kernel_rfl
theorem tagg125 : tagg Tryz.prog 125 = some true := by kernel_rfl
theorem tagg127 : tagg Tryz.prog 127 = some true := by kernel_rfl
theorem tagg131 : tagg Tryz.prog 131 = some true := by kernel_rfl
theorem tzero3 : tzero Tryz.prog 3 = some [.int .i64 0] := by kernel_rfl
theorem tzero4 : tzero Tryz.prog 4 = some [.bool false] := by kernel_rfl
theorem tzero26 : tzero Tryz.prog 26 = some [.sl none none []] := by kernel_rfl
theorem tzero33 : tzero Tryz.prog 33 = some [.int .i64 0, .sl none none [], .sl none none []] := by kernel_rfl
theorem tzero36 : tzero Tryz.prog 36 = some [.int .i64 0, .sl none none [], .sl none none []] := by kernel_rfl
theorem tzero38 : tzero Tryz.prog 38 = some [.int .i64 0, .sl none none [], .sl none none [], .int .i64 0, .sl none none [], .sl none none []] := by kernel_rfl
theorem tzero43 : tzero Tryz.prog 43 = some [.sl none none []] := by kernel_rfl
theorem tzero60 : tzero Tryz.prog 60 = some [.int .i64 0, .sl none none []] := by kernel_rfl
theorem tzero62 : tzero Tryz.prog 62 = some [.str [], .int .i64 0, .sl none none [], .int .i64 0, .sl none none []] := by kernel_rfl
theorem tzero125 : tzero Tryz.prog 125 = some [.str [], .sl none none []] := by kernel_rfl
theorem tzero127 : tzero Tryz.prog 127 = some [.str [], .int .i64 0, .sl none none []] := by kernel_rfl
theorem tzero131 : tzero Tryz.prog 131 = some [.sl none none [], .int .i64 0, .sl none none []] := by kernel_rfl
theorem tslice22 : tslice Tryz.prog 22 = some (119, 3, 48) := by kernel_rfl
theorem telem22 : telem Tryz.prog 22 = some 119 := by kernel_rfl
theorem tslice25 : tslice Tryz.prog 25 = some (122, 2, 40) := by kernel_rfl
theorem telem25 : telem Tryz.prog 25 = some 122 := by kernel_rfl
theorem tslice26 : tslice Tryz.prog 26 = some (3, 1, 8) := by kernel_rfl
theorem telem26 : telem Tryz.prog 26 = some 3 := by kernel_rfl
theorem tslice31 : tslice Tryz.prog 31 = some (125, 2, 40) := by kernel_rfl
theorem telem31 : telem Tryz.prog 31 = some 125 := by kernel_rfl
theorem tslice34 : tslice Tryz.prog 34 = some (26, 1, 24) := by kernel_rfl
theorem telem34 : telem Tryz.prog 34 = some 26 := by kernel_rfl
theorem tslice41 : tslice Tryz.prog 41 = some (127, 3, 48) := by kernel_rfl
theorem telem41 : telem Tryz.prog 41 = some 127 := by kernel_rfl
theorem tslice76 : tslice Tryz.prog 76 = some (56, 5, 80) := by kernel_rfl
theorem telem76 : telem Tryz.prog 76 = some 56 := by kernel_rfl
theorem tslice79 : tslice Tryz.prog 79 = some (62, 5, 80) := by kernel_rfl
theorem telem79 : telem Tryz.prog 79 = some 62 := by kernel_rfl
theorem tslice153 : tslice Tryz.prog 153 = some (5, 1, 1) := by kernel_rfl
theorem telem153 : telem Tryz.prog 153 = some 5 := by kernel_rfl
theorem tslice173 : tslice Tryz.prog 173 = some (4, 1, 1) := by kernel_rfl
theorem telem173 : telem Tryz.prog 173 = some 4 := by kernel_rfl
theorem tstr9 : tstr Tryz.prog 9 = some true := by kernel_rfl
theorem tstr22 : tstr Tryz.prog 22 = some false := by kernel_rfl
theorem tstr25 : tstr Tryz.prog 25 = some false := by kernel_rfl
theorem tstr26 : tstr Tryz.prog 26 = some false := by kernel_rfl
theorem tstr31 : tstr Tryz.prog 31 = some false := by kernel_rfl
theorem tstr34 : tstr Tryz.prog 34 = some false := by kernel_rfl
theorem tstr41 : tstr Tryz.prog 41 = some false := by kernel_rfl
theorem tstr76 : tstr Tryz.prog 76 = some false := by kernel_rfl
theorem tstr79 : tstr Tryz.prog 79 = some false := by kernel_rfl
theorem tstr173 : tstr Tryz.prog 173 = some false := by kernel_rfl
theorem tfld33 : tfld Tryz.prog 33 = true := by kernel_rfl
theorem tfld36 : tfld Tryz.prog 36 = true := by kernel_rfl
theorem tfld38 : tfld Tryz.prog 38 = true := by kernel_rfl
theorem tfld43 : tfld Tryz.prog 43 = true := by kernel_rfl
theorem tfld60 : tfld Tryz.prog 60 = true := by kernel_rfl
theorem tfld62 : tfld Tryz.prog 62 = true := by kernel_rfl
theorem tfld125 : tfld Tryz.prog 125 = true := by kernel_rfl
theorem tfld127 : tfld Tryz.prog 127 = true := by kernel_rfl
theorem tfld131 : tfld Tryz.prog 131 = true := by kernel_rfl
theorem foff24_0 : foff Tryz.prog 24 0 = some (0, 1) := by kernel_rfl
theorem foff28_0 : foff Tryz.prog 28 0 = some (0, 1) := by kernel_rfl
theorem foff28_1 : foff Tryz.prog 28 1 = some (1, 1) := by kernel_rfl
theorem foff28_2 : foff Tryz.prog 28 2 = some (2, 1) := by kernel_rfl
theorem foff33_0 : foff Tryz.prog 33 0 = some (0, 1) := by kernel_rfl
theorem foff33_1 : foff Tryz.prog 33 1 = some (1, 1) := by kernel_rfl
theorem foff33_2 : foff Tryz.prog 33 2 = some (2, 1) := by kernel_rfl
theorem foff36_0 : foff Tryz.prog 36 0 = some (0, 1) := by kernel_rfl
theorem foff36_1 : foff Tryz.prog 36 1 = some (1, 1) := by kernel_rfl
theorem foff36_2 : foff Tryz.prog 36 2 = some (2, 1) := by kernel_rfl
theorem foff38_0 : foff Tryz.prog 38 0 = some (0, 3) := by kernel_rfl
theorem foff38_1 : foff Tryz.prog 38 1 = some (3, 3) := by kernel_rfl
theorem foff43_0 : foff Tryz.prog 43 0 = some (0, 1) := by kernel_rfl
theorem foff54_0 : foff Tryz.prog 54 0 = some (0, 1) := by kernel_rfl
theorem foff54_1 : foff Tryz.prog 54 1 = some (1, 1) := by kernel_rfl
theorem foff56_0 : foff Tryz.prog 56 0 = some (0, 1) := by kernel_rfl
theorem foff56_1 : foff Tryz.prog 56 1 = some (1, 2) := by kernel_rfl
theorem foff56_2 : foff Tryz.prog 56 2 = some (3, 2) := by kernel_rfl
theorem foff60_0 : foff Tryz.prog 60 0 = some (0, 1) := by kernel_rfl
theorem foff60_1 : foff Tryz.prog 60 1 = some (1, 1) := by kernel_rfl
theorem foff62_0 : foff Tryz.prog 62 0 = some (0, 1) := by kernel_rfl
theorem foff62_1 : foff Tryz.prog 62 1 = some (1, 2) := by kernel_rfl
theorem foff62_2 : foff Tryz.prog 62 2 = some (3, 2) := by kernel_rfl
theorem foff69_0 : foff Tryz.prog 69 0 = some (0, 1) := by kernel_rfl
theorem foff69_1 : foff Tryz.prog 69 1 = some (1, 1) := by kernel_rfl
theorem foff69_2 : foff Tryz.prog 69 2 = some (2, 1) := by kernel_rfl
theorem foff71_0 : foff Tryz.prog 71 0 = some (0, 3) := by kernel_rfl
theorem foff71_1 : foff Tryz.prog 71 1 = some (3, 3) := by kernel_rfl
theorem foff119_0 : foff Tryz.prog 119 0 = some (0, 1) := by kernel_rfl
theorem foff119_1 : foff Tryz.prog 119 1 = some (1, 2) := by kernel_rfl
theorem foff122_0 : foff Tryz.prog 122 0 = some (0, 1) := by kernel_rfl
theorem foff122_1 : foff Tryz.prog 122 1 = some (1, 1) := by kernel_rfl
theorem foff125_0 : foff Tryz.prog 125 0 = some (0, 1) := by kernel_rfl
theorem foff125_1 : foff Tryz.prog 125 1 = some (1, 1) := by kernel_rfl
theorem foff127_0 : foff Tryz.prog 127 0 = some (0, 1) := by kernel_rfl
theorem foff127_1 : foff Tryz.prog 127 1 = some (1, 2) := by kernel_rfl
theorem foff131_0 : foff Tryz.prog 131 0 = some (0, 1) := by kernel_rfl
theorem foff131_1 : foff Tryz.prog 131 1 = some (1, 2) := by kernel_rfl
attribute [simp] tsz3 tsz4 tsz9 tsz22 tsz24 tsz25 tsz26 tsz28 tsz31 tsz33 tsz34 tsz36 tsz38 tsz41 tsz43 tsz54 tsz56 tsz60 tsz62 tsz69 tsz71 tsz119 tsz122 tsz125 tsz127 tsz131 tagg3 tagg4 tagg9 tagg22 tagg24 tagg25 tagg26 tagg28 tagg31 tagg33 tagg34 tagg36 tagg38 tagg41 tagg43 tagg54 tagg56 tagg60 tagg62 tagg69 tagg71 tagg119 tagg122 tagg125 tagg127 tagg131 tzero3 tzero4 tzero26 tzero33 tzero36 tzero38 tzero43 tzero60 tzero62 tzero125 tzero127 tzero131 tslice22 telem22 tslice25 telem25 tslice26 telem26 tslice31 telem31 tslice34 telem34 tslice41 telem41 tslice76 telem76 tslice79 telem79 tslice153 telem153 tslice173 telem173 tstr9 tstr22 tstr25 tstr26 tstr31 tstr34 tstr41 tstr76 tstr79 tstr173 tfld33 tfld36 tfld38 tfld43 tfld60 tfld62 tfld125 tfld127 tfld131 foff24_0 foff28_0 foff28_1 foff28_2 foff33_0 foff33_1 foff33_2 foff36_0 foff36_1 foff36_2 foff38_0 foff38_1 foff43_0 foff54_0 foff54_1 foff56_0 foff56_1 foff56_2 foff60_0 foff60_1 foff62_0 foff62_1 foff62_2 foff69_0 foff69_1 foff69_2 foff71_0 foff71_1 foff119_0 foff119_1 foff122_0 foff122_1 foff125_0 foff125_1 foff127_0 foff127_1 foff131_0 foff131_1
end Go.Proofs.YtggbpdjjlgejmaaGreat


namespace Go.Proofs.YtggbpdjjlgejmaaGreat
open Go.Vs Go.Proofs Go

/-- the functions that write what they are handed -/
def E : Md := ⟨fun f => [16, 17, 18, 26, 27, 38, 54, 55, 56, 68, 69, 98].contains f, false⟩
/-- as E; slices are known by elements only -/
def EP : Md := ⟨E.e, true⟩
@[simp] theorem E_p : E.p = false := Eq.trans rfl rfl
@[simp] theorem EP_p : EP.p = true := Eq.trans rfl rfl

theorem E16 : E 16 = true := rfl
theorem E17 : E 17 = true := rfl
theorem E18 : E 18 = true := rfl
theorem E26 : E 26 = true := rfl
theorem E27 : E 27 = true := rfl
theorem E38 : E 38 = true := rfl
theorem E54 : E 54 = true := rfl
theorem E55 : E 55 = true := rfl
theorem E56 : E 56 = true := rfl
theorem E68 : E 68 = true := rfl
theorem E69 : E 69 = true := rfl
theorem E98 : E 98 = true := rfl
/-- the orders of laws.FnExactNewView -/
def s3 (i : Nat) : Tr := if i = 8 then .seq [0, 2] (.both (.seq [1] (.both (.seq [3] (.both (.seq [4, 5, 6, 7, 8, 9, 10] .nil) (.seq [8, 4, 5, 6, 7, 9, 10] .nil))) (.seq [8, 3, 4, 5, 6, 7, 9, 10] .nil))) (.seq [8, 1, 3, 4, 5, 6, 7, 9, 10] .nil)) else if i = 14 then .seq [0, 1, 2, 3, 4] .nil else if i = 16 then .seq [0, 1, 2, 3, 4] .nil else if i = 31 then .seq [0, 2] (.both (.seq [1] (.both (.seq [3] (.both (.seq [4, 5, 6, 7, 8, 9, 10] .nil) (.seq [8, 4, 5, 6, 7, 9, 10] .nil))) (.seq [8, 3, 4, 5, 6, 7, 9, 10] .nil))) (.seq [8, 1, 3, 4, 5, 6, 7, 9, 10] .nil)) else .nil
theorem s3_8 : s3 8 = .seq [0, 2] (.both (.seq [1] (.both (.seq [3] (.both (.seq [4, 5, 6, 7, 8, 9, 10] .nil) (.seq [8, 4, 5, 6, 7, 9, 10] .nil))) (.seq [8, 3, 4, 5, 6, 7, 9, 10] .nil))) (.seq [8, 1, 3, 4, 5, 6, 7, 9, 10] .nil)) := rfl
theorem s3_14 : s3 14 = .seq [0, 1, 2, 3, 4] .nil := rfl
theorem s3_16 : s3 16 = .seq [0, 1, 2, 3, 4] .nil := rfl
theorem s3_31 : s3 31 = .seq [0, 2] (.both (.seq [1] (.both (.seq [3] (.both (.seq [4, 5, 6, 7, 8, 9, 10] .nil) (.seq [8, 4, 5, 6, 7, 9, 10] .nil))) (.seq [8, 3, 4, 5, 6, 7, 9, 10] .nil))) (.seq [8, 1, 3, 4, 5, 6, 7, 9, 10] .nil)) := rfl
theorem s3_ok : okCode E 119 s3 (Tryz.f3.body.getD .skip) = true := by kernel_rfl
/-- the orders of laws.FnExactViewDelta -/
def s4 (i : Nat) : Tr := if i = 11 then .seq [0, 2, 4] (.both (.seq [1] (.both (.seq [3] (.both (.seq [5] (.both (.seq [6, 7, 8, 9, 10, 11, 12] .nil) (.seq [10, 6, 7, 8, 9, 11, 12] .nil))) (.seq [10, 5, 6, 7, 8, 9, 11, 12] .nil))) (.seq [10, 3, 5, 6, 7, 8, 9, 11, 12] .nil))) (.seq [10, 1, 3, 5, 6, 7, 8, 9, 11, 12] .nil)) else if i = 18 then .seq [0, 1, 2, 3, 4] .nil else if i = 20 then .seq [0, 1, 2, 3, 4] .nil else if i = 22 then .seq [0, 1, 2, 3, 4] .nil else if i = 38 then .seq [0, 2, 4] (.both (.seq [1] (.both (.seq [3] (.both (.seq [5] (.both (.seq [6, 7, 8, 9, 10, 11, 12] .nil) (.seq [10, 6, 7, 8, 9, 11, 12] .nil))) (.seq [10, 5, 6, 7, 8, 9, 11, 12] .nil))) (.seq [10, 3, 5, 6, 7, 8, 9, 11, 12] .nil))) (.seq [10, 1, 3, 5, 6, 7, 8, 9, 11, 12] .nil)) else .nil
theorem s4_11 : s4 11 = .seq [0, 2, 4] (.both (.seq [1] (.both (.seq [3] (.both (.seq [5] (.both (.seq [6, 7, 8, 9, 10, 11, 12] .nil) (.seq [10, 6, 7, 8, 9, 11, 12] .nil))) (.seq [10, 5, 6, 7, 8, 9, 11, 12] .nil))) (.seq [10, 3, 5, 6, 7, 8, 9, 11, 12] .nil))) (.seq [10, 1, 3, 5, 6, 7, 8, 9, 11, 12] .nil)) := rfl
theorem s4_18 : s4 18 = .seq [0, 1, 2, 3, 4] .nil := rfl
theorem s4_20 : s4 20 = .seq [0, 1, 2, 3, 4] .nil := rfl
theorem s4_22 : s4 22 = .seq [0, 1, 2, 3, 4] .nil := rfl
theorem s4_38 : s4 38 = .seq [0, 2, 4] (.both (.seq [1] (.both (.seq [3] (.both (.seq [5] (.both (.seq [6, 7, 8, 9, 10, 11, 12] .nil) (.seq [10, 6, 7, 8, 9, 11, 12] .nil))) (.seq [10, 5, 6, 7, 8, 9, 11, 12] .nil))) (.seq [10, 3, 5, 6, 7, 8, 9, 11, 12] .nil))) (.seq [10, 1, 3, 5, 6, 7, 8, 9, 11, 12] .nil)) := rfl
theorem s4_ok : okCode E 142 s4 (Tryz.f4.body.getD .skip) = true := by kernel_rfl
/-- the orders of laws.FnExactApplyToView -/
def s5 (i : Nat) : Tr := if i = 11 then .seq [0, 2, 4] (.both (.seq [1] (.both (.seq [3] (.both (.seq [5] (.both (.seq [6, 7, 8, 9, 10, 11, 12] .nil) (.seq [10, 6, 7, 8, 9, 11, 12] .nil))) (.seq [10, 5, 6, 7, 8, 9, 11, 12] .nil))) (.seq [10, 3, 5, 6, 7, 8, 9, 11, 12] .nil))) (.seq [10, 1, 3, 5, 6, 7, 8, 9, 11, 12] .nil)) else if i = 18 then .seq [0, 1, 2, 3, 4] .nil else if i = 20 then .seq [0, 1, 2, 3, 4] .nil else if i = 22 then .seq [0, 1, 2, 3, 4] .nil else if i = 38 then .seq [0, 2, 4] (.both (.seq [1] (.both (.seq [3] (.both (.seq [5] (.both (.seq [6, 7, 8, 9, 10, 11, 12] .nil) (.seq [10, 6, 7, 8, 9, 11, 12] .nil))) (.seq [10, 5, 6, 7, 8, 9, 11, 12] .nil))) (.seq [10, 3, 5, 6, 7, 8, 9, 11, 12] .nil))) (.seq [10, 1, 3, 5, 6, 7, 8, 9, 11, 12] .nil)) else .nil
theorem s5_11 : s5 11 = .seq [0, 2, 4] (.both (.seq [1] (.both (.seq [3] (.both (.seq [5] (.both (.seq [6, 7, 8, 9, 10, 11, 12] .nil) (.seq [10, 6, 7, 8, 9, 11, 12] .nil))) (.seq [10, 5, 6, 7, 8, 9, 11, 12] .nil))) (.seq [10, 3, 5, 6, 7, 8, 9, 11, 12] .nil))) (.seq [10, 1, 3, 5, 6, 7, 8, 9, 11, 12] .nil)) := rfl
theorem s5_18 : s5 18 = .seq [0, 1, 2, 3, 4] .nil := rfl
theorem s5_20 : s5 20 = .seq [0, 1, 2, 3, 4] .nil := rfl
theorem s5_22 : s5 22 = .seq [0, 1, 2, 3, 4] .nil := rfl
theorem s5_38 : s5 38 = .seq [0, 2, 4] (.both (.seq [1] (.both (.seq [3] (.both (.seq [5] (.both (.seq [6, 7, 8, 9, 10, 11, 12] .nil) (.seq [10, 6, 7, 8, 9, 11, 12] .nil))) (.seq [10, 5, 6, 7, 8, 9, 11, 12] .nil))) (.seq [10, 3, 5, 6, 7, 8, 9, 11, 12] .nil))) (.seq [10, 1, 3, 5, 6, 7, 8, 9, 11, 12] .nil)) := rfl
theorem s5_ok : okCode E 142 s5 (Tryz.f5.body.getD .skip) = true := by kernel_rfl
/-- the orders of laws.FnExactApplyBatchToView -/
def s6 (i : Nat) : Tr := if i = 11 then .seq [0, 2, 4] (.both (.seq [1] (.both (.seq [3] (.both (.seq [5] (.both (.seq [6, 7, 8, 9, 10, 11, 12] .nil) (.seq [10, 6, 7, 8, 9, 11, 12] .nil))) (.seq [10, 5, 6, 7, 8, 9, 11, 12] .nil))) (.seq [10, 3, 5, 6, 7, 8, 9, 11, 12] .nil))) (.seq [10, 1, 3, 5, 6, 7, 8, 9, 11, 12] .nil)) else if i = 18 then .seq [0, 1, 2, 3, 4] .nil else if i = 20 then .seq [0, 1, 2, 3, 4] .nil else if i = 38 then .seq [0, 2, 4] (.both (.seq [1] (.both (.seq [3] (.both (.seq [5] (.both (.seq [6, 7, 8, 9, 10, 11, 12] .nil) (.seq [10, 6, 7, 8, 9, 11, 12] .nil))) (.seq [10, 5, 6, 7, 8, 9, 11, 12] .nil))) (.seq [10, 3, 5, 6, 7, 8, 9, 11, 12] .nil))) (.seq [10, 1, 3, 5, 6, 7, 8, 9, 11, 12] .nil)) else .nil
theorem s6_11 : s6 11 = .seq [0, 2, 4] (.both (.seq [1] (.both (.seq [3] (.both (.seq [5] (.both (.seq [6, 7, 8, 9, 10, 11, 12] .nil) (.seq [10, 6, 7, 8, 9, 11, 12] .nil))) (.seq [10, 5, 6, 7, 8, 9, 11, 12] .nil))) (.seq [10, 3, 5, 6, 7, 8, 9, 11, 12] .nil))) (.seq [10, 1, 3, 5, 6, 7, 8, 9, 11, 12] .nil)) := rfl
theorem s6_18 : s6 18 = .seq [0, 1, 2, 3, 4] .nil := rfl
theorem s6_20 : s6 20 = .seq [0, 1, 2, 3, 4] .nil := rfl
theorem s6_38 : s6 38 = .seq [0, 2, 4] (.both (.seq [1] (.both (.seq [3] (.both (.seq [5] (.both (.seq [6, 7, 8, 9, 10, 11, 12] .nil) (.seq [10, 6, 7, 8, 9, 11, 12] .nil))) (.seq [10, 5, 6, 7, 8, 9, 11, 12] .nil))) (.seq [10, 3, 5, 6, 7, 8, 9, 11, 12] .nil))) (.seq [10, 1, 3, 5, 6, 7, 8, 9, 11, 12] .nil)) := rfl
theorem s6_ok : okCode E 142 s6 (Tryz.f6.body.getD .skip) = true := by kernel_rfl
/-- the orders of laws.szDatabase -/
def s7 (_ : Nat) : Tr := .nil
theorem s7_ok : okCode E 12 s7 (Tryz.f7.body.getD .skip) = true := by kernel_rfl
/-- the orders of laws.szQuery -/
def s8 (_ : Nat) : Tr := .nil
theorem s8_ok : okCode E 18 s8 (Tryz.f8.body.getD .skip) = true := by kernel_rfl
/-- the orders of spec.NewView -/
def s9 (i : Nat) : Tr := if i = 4 then .seq [0, 2, 1, 3, 4, 5] .nil else .nil
theorem s9_4 : s9 4 = .seq [0, 2, 1, 3, 4, 5] .nil := rfl
theorem s9_ok : okCode E 21 s9 (Tryz.f9.body.getD .skip) = true := by kernel_rfl
/-- the orders of laws.toDatabase -/
def s10 (_ : Nat) : Tr := .nil
theorem s10_ok : okCode E 9 s10 (Tryz.f10.body.getD .skip) = true := by kernel_rfl
/-- the orders of laws.toQuery -/
def s11 (_ : Nat) : Tr := .nil
theorem s11_ok : okCode E 16 s11 (Tryz.f11.body.getD .skip) = true := by kernel_rfl
/-- the orders of impl.NewView -/
def s12 (i : Nat) : Tr := if i = 8 then .seq [0, 2, 1, 3, 4, 5] .nil else .nil
theorem s12_8 : s12 8 = .seq [0, 2, 1, 3, 4, 5] .nil := rfl
theorem s12_ok : okCode E 40 s12 (Tryz.f12.body.getD .skip) = true := by kernel_rfl
/-- the orders of laws.eqView -/
def s13 (_ : Nat) : Tr := .nil
theorem s13_ok : okCode E 17 s13 (Tryz.f13.body.getD .skip) = true := by kernel_rfl
/-- the orders of laws.eqDatabase -/
def s14 (_ : Nat) : Tr := .nil
theorem s14_ok : okCode E 11 s14 (Tryz.f14.body.getD .skip) = true := by kernel_rfl
/-- the orders of laws.eqQuery -/
def s15 (_ : Nat) : Tr := .nil
theorem s15_ok : okCode E 22 s15 (Tryz.f15.body.getD .skip) = true := by kernel_rfl
/-- the orders of laws.markDatabase -/
def s16 (_ : Nat) : Tr := .nil
theorem s16_ok : okCode E 10 s16 (Tryz.f16.body.getD .skip) = true := by kernel_rfl
/-- the orders of laws.markQuery -/
def s17 (_ : Nat) : Tr := .nil
theorem s17_ok : okCode E 14 s17 (Tryz.f17.body.getD .skip) = true := by kernel_rfl
/-- the orders of laws.markView -/
def s18 (_ : Nat) : Tr := .nil
theorem s18_ok : okCode E 14 s18 (Tryz.f18.body.getD .skip) = true := by kernel_rfl
/-- the orders of laws.heldView -/
def s19 (_ : Nat) : Tr := .nil
theorem s19_ok : okCode E 18 s19 (Tryz.f19.body.getD .skip) = true := by kernel_rfl
/-- the orders of laws.szDelta -/
def s20 (_ : Nat) : Tr := .nil
theorem s20_ok : okCode E 25 s20 (Tryz.f20.body.getD .skip) = true := by kernel_rfl
/-- the orders of spec.ViewDelta -/
def s21 (i : Nat) : Tr := if i = 6 then .seq [0, 1] (.both (.seq [2] (.both (.seq [3, 4, 5, 6, 7, 8, 9] .nil) (.seq [7, 3, 4, 5, 6, 8, 9] .nil))) (.seq [7, 2, 3, 4, 5, 6, 8, 9] .nil)) else .nil
theorem s21_6 : s21 6 = .seq [0, 1] (.both (.seq [2] (.both (.seq [3, 4, 5, 6, 7, 8, 9] .nil) (.seq [7, 3, 4, 5, 6, 8, 9] .nil))) (.seq [7, 2, 3, 4, 5, 6, 8, 9] .nil)) := rfl
theorem s21_ok : okCode E 54 s21 (Tryz.f21.body.getD .skip) = true := by kernel_rfl
/-- the orders of laws.toDelta -/
def s22 (_ : Nat) : Tr := .nil
theorem s22_ok : okCode E 16 s22 (Tryz.f22.body.getD .skip) = true := by kernel_rfl
/-- the orders of impl.ViewDelta -/
def s23 (i : Nat) : Tr := if i = 6 then .seq [0, 1, 2, 3, 4, 5, 6, 7, 8, 9] .nil else .nil
theorem s23_6 : s23 6 = .seq [0, 1, 2, 3, 4, 5, 6, 7, 8, 9] .nil := rfl
theorem s23_ok : okCode E 51 s23 (Tryz.f23.body.getD .skip) = true := by kernel_rfl
/-- the orders of laws.eqCountedRelation -/
def s24 (_ : Nat) : Tr := .nil
theorem s24_ok : okCode E 22 s24 (Tryz.f24.body.getD .skip) = true := by kernel_rfl
/-- the orders of laws.eqDelta -/
def s25 (_ : Nat) : Tr := .nil
theorem s25_ok : okCode E 22 s25 (Tryz.f25.body.getD .skip) = true := by kernel_rfl
/-- the orders of laws.markDelta -/
def s26 (_ : Nat) : Tr := .nil
theorem s26_ok : okCode E 14 s26 (Tryz.f26.body.getD .skip) = true := by kernel_rfl
/-- the orders of laws.markCountedRelation -/
def s27 (_ : Nat) : Tr := .nil
theorem s27_ok : okCode E 14 s27 (Tryz.f27.body.getD .skip) = true := by kernel_rfl
/-- the orders of laws.heldCountedRelation -/
def s28 (_ : Nat) : Tr := .nil
theorem s28_ok : okCode E 18 s28 (Tryz.f28.body.getD .skip) = true := by kernel_rfl
/-- the orders of laws.szView -/
def s29 (_ : Nat) : Tr := .nil
theorem s29_ok : okCode E 18 s29 (Tryz.f29.body.getD .skip) = true := by kernel_rfl
/-- the orders of spec.ApplyToView -/
def s30 (i : Nat) : Tr := if i = 7 then .seq [0, 1, 3, 2, 4, 5, 6] .nil else .nil
theorem s30_7 : s30 7 = .seq [0, 1, 3, 2, 4, 5, 6] .nil := rfl
theorem s30_ok : okCode E 44 s30 (Tryz.f30.body.getD .skip) = true := by kernel_rfl
/-- the orders of laws.toView -/
def s31 (_ : Nat) : Tr := .nil
theorem s31_ok : okCode E 13 s31 (Tryz.f31.body.getD .skip) = true := by kernel_rfl
/-- the orders of impl.ApplyToView -/
def s32 (i : Nat) : Tr := if i = 7 then .seq [0, 1, 3, 2, 4, 5, 6] .nil else .nil
theorem s32_7 : s32 7 = .seq [0, 1, 3, 2, 4, 5, 6] .nil := rfl
theorem s32_ok : okCode E 44 s32 (Tryz.f32.body.getD .skip) = true := by kernel_rfl
/-- the orders of laws.szDeltaS -/
def s33 (_ : Nat) : Tr := .nil
theorem s33_ok : okCode E 27 s33 (Tryz.f33.body.getD .skip) = true := by kernel_rfl
/-- the orders of spec.ApplyBatchToView -/
def s34 (i : Nat) : Tr := if i = 7 then .seq [0, 1, 2, 3, 4, 5] (.both (.seq [6, 7, 8, 9, 10, 11, 12] .nil) (.seq [10, 6, 7, 8, 9, 11, 12] .nil)) else if i = 11 then .seq [0, 1, 2, 3, 4, 5, 6, 7, 8, 9] .nil else if i = 13 then .seq [0, 1, 3, 2, 4, 5, 6] .nil else .nil
theorem s34_7 : s34 7 = .seq [0, 1, 2, 3, 4, 5] (.both (.seq [6, 7, 8, 9, 10, 11, 12] .nil) (.seq [10, 6, 7, 8, 9, 11, 12] .nil)) := rfl
theorem s34_11 : s34 11 = .seq [0, 1, 2, 3, 4, 5, 6, 7, 8, 9] .nil := rfl
theorem s34_13 : s34 13 = .seq [0, 1, 3, 2, 4, 5, 6] .nil := rfl
theorem s34_ok : okCode E 71 s34 (Tryz.f34.body.getD .skip) = true := by kernel_rfl
/-- the orders of laws.toDeltaS -/
def s35 (_ : Nat) : Tr := .nil
theorem s35_ok : okCode E 23 s35 (Tryz.f35.body.getD .skip) = true := by kernel_rfl
/-- the orders of impl.ApplyBatchToView -/
def s36 (i : Nat) : Tr := if i = 3 then .seq [0, 1, 3, 4] (.both (.seq [2] (.both (.seq [5, 6, 7, 8] .nil) (.seq [7, 5, 6, 8] .nil))) (.seq [7, 2, 5, 6, 8] .nil)) else .nil
theorem s36_3 : s36 3 = .seq [0, 1, 3, 4] (.both (.seq [2] (.both (.seq [5, 6, 7, 8] .nil) (.seq [7, 5, 6, 8] .nil))) (.seq [7, 2, 5, 6, 8] .nil)) := rfl
theorem s36_ok : okCode E 56 s36 (Tryz.f36.body.getD .skip) = true := by kernel_rfl
/-- the orders of laws.eqDeltaS -/
def s37 (i : Nat) : Tr := if i = 6 then .seq [0, 1, 2, 3, 4, 5, 6, 7, 8, 9] .nil else .nil
theorem s37_6 : s37 6 = .seq [0, 1, 2, 3, 4, 5, 6, 7, 8, 9] .nil := rfl
theorem s37_ok : okCode E 27 s37 (Tryz.f37.body.getD .skip) = true := by kernel_rfl
/-- the orders of laws.markDeltaS -/
def s38 (_ : Nat) : Tr := .nil
theorem s38_ok : okCode E 53 s38 (Tryz.f38.body.getD .skip) = true := by kernel_rfl
/-- the orders of laws.szTableS -/
def s39 (_ : Nat) : Tr := .nil
theorem s39_ok : okCode E 27 s39 (Tryz.f39.body.getD .skip) = true := by kernel_rfl
/-- the orders of laws.szAtomS -/
def s40 (_ : Nat) : Tr := .nil
theorem s40_ok : okCode E 27 s40 (Tryz.f40.body.getD .skip) = true := by kernel_rfl
/-- the orders of laws.szIntS -/
def s41 (_ : Nat) : Tr := .nil
theorem s41_ok : okCode E 12 s41 (Tryz.f41.body.getD .skip) = true := by kernel_rfl
/-- the orders of spec.l28Z -/
def s42 (_ : Nat) : Tr := .nil
theorem s42_ok : okCode E 40 s42 (Tryz.f42.body.getD .skip) = true := by kernel_rfl
/-- the orders of spec.l7Copy -/
def s43 (i : Nat) : Tr := if i = 1 then .seq [0, 1, 3, 4] (.both (.seq [2] (.both (.app 5 [5] (.seq [6, 7, 8] .nil)) (.seq [7] (.app 5 [5] (.seq [6, 8] .nil))))) (.seq [7, 2] (.app 5 [5] (.seq [6, 8] .nil)))) else if i = 5 then .seq [0, 1, 2, 3, 4, 5, 6, 7, 9, 10, 11, 12, 13, 14, 8] (.app 15 [19, 21, 25] (.seq [16, 17, 18, 19, 20] .nil)) else .nil
theorem s43_1 : s43 1 = .seq [0, 1, 3, 4] (.both (.seq [2] (.both (.app 5 [5] (.seq [6, 7, 8] .nil)) (.seq [7] (.app 5 [5] (.seq [6, 8] .nil))))) (.seq [7, 2] (.app 5 [5] (.seq [6, 8] .nil)))) := rfl
theorem s43_5 : s43 5 = .seq [0, 1, 2, 3, 4, 5, 6, 7, 9, 10, 11, 12, 13, 14, 8] (.app 15 [19, 21, 25] (.seq [16, 17, 18, 19, 20] .nil)) := rfl
theorem s43_ok : okCode E 40 s43 (Tryz.f43.body.getD .skip) = true := by kernel_rfl
/-- the orders of laws.toTableS -/
def s44 (_ : Nat) : Tr := .nil
theorem s44_ok : okCode E 23 s44 (Tryz.f44.body.getD .skip) = true := by kernel_rfl
/-- the orders of laws.toAtomS -/
def s45 (_ : Nat) : Tr := .nil
theorem s45_ok : okCode E 23 s45 (Tryz.f45.body.getD .skip) = true := by kernel_rfl
/-- the orders of laws.toIntS -/
def s46 (_ : Nat) : Tr := .nil
theorem s46_ok : okCode E 22 s46 (Tryz.f46.body.getD .skip) = true := by kernel_rfl
/-- the orders of impl.bindings -/
def s47 (i : Nat) : Tr := if i = 25 then .seq [0, 1, 2] (.both (.seq [3, 4, 5, 6] .nil) (.seq [5, 3, 4, 6] .nil)) else .nil
theorem s47_25 : s47 25 = .seq [0, 1, 2] (.both (.seq [3, 4, 5, 6] .nil) (.seq [5, 3, 4, 6] .nil)) := rfl
theorem s47_ok : okCode E 86 s47 (Tryz.f47.body.getD .skip) = true := by kernel_rfl
/-- the orders of impl.CountedFromRelation -/
def s48 (i : Nat) : Tr := if i = 3 then .seq [0, 1, 2, 3] (.both (.seq [4, 5, 6, 7] .nil) (.seq [6, 4, 5, 7] .nil)) else .nil
theorem s48_3 : s48 3 = .seq [0, 1, 2, 3] (.both (.seq [4, 5, 6, 7] .nil) (.seq [6, 4, 5, 7] .nil)) := rfl
theorem s48_ok : okCode E 27 s48 (Tryz.f48.body.getD .skip) = true := by kernel_rfl
/-- the orders of impl.ProjectCounted -/
def s49 (i : Nat) : Tr := if i = 7 then .seq [0, 1, 3, 4, 5, 6, 7, 2, 8] .nil else .nil
theorem s49_7 : s49 7 = .seq [0, 1, 3, 4, 5, 6, 7, 2, 8] .nil := rfl
theorem s49_ok : okCode E 49 s49 (Tryz.f49.body.getD .skip) = true := by kernel_rfl
/-- the orders of impl.copyQuery -/
def s50 (i : Nat) : Tr := if i = 1 then .seq [0, 1, 2, 3] (.both (.seq [4, 5, 6, 7] .nil) (.seq [6, 4, 5, 7] .nil)) else if i = 5 then .seq [0, 1, 2, 3, 4, 5, 6, 7, 8, 9, 10, 11] .nil else .nil
theorem s50_1 : s50 1 = .seq [0, 1, 2, 3] (.both (.seq [4, 5, 6, 7] .nil) (.seq [6, 4, 5, 7] .nil)) := rfl
theorem s50_5 : s50 5 = .seq [0, 1, 2, 3, 4, 5, 6, 7, 8, 9, 10, 11] .nil := rfl
theorem s50_ok : okCode E 32 s50 (Tryz.f50.body.getD .skip) = true := by kernel_rfl
/-- the orders of laws.eqTableS -/
def s51 (i : Nat) : Tr := if i = 6 then .seq [0, 1, 2, 3, 4, 5, 6, 7, 8, 9] .nil else .nil
theorem s51_6 : s51 6 = .seq [0, 1, 2, 3, 4, 5, 6, 7, 8, 9] .nil := rfl
theorem s51_ok : okCode E 27 s51 (Tryz.f51.body.getD .skip) = true := by kernel_rfl
/-- the orders of laws.eqAtomS -/
def s52 (i : Nat) : Tr := if i = 6 then .seq [0, 1, 2, 3, 4, 5, 6, 7, 8, 9] .nil else .nil
theorem s52_6 : s52 6 = .seq [0, 1, 2, 3, 4, 5, 6, 7, 8, 9] .nil := rfl
theorem s52_ok : okCode E 27 s52 (Tryz.f52.body.getD .skip) = true := by kernel_rfl
/-- the orders of laws.eqIntS -/
def s53 (i : Nat) : Tr := if i = 6 then .seq [0, 1, 2, 3, 4, 5, 6, 7, 8] .nil else .nil
theorem s53_6 : s53 6 = .seq [0, 1, 2, 3, 4, 5, 6, 7, 8] .nil := rfl
theorem s53_ok : okCode E 26 s53 (Tryz.f53.body.getD .skip) = true := by kernel_rfl
/-- the orders of laws.markTableS -/
def s54 (_ : Nat) : Tr := .nil
theorem s54_ok : okCode E 37 s54 (Tryz.f54.body.getD .skip) = true := by kernel_rfl
/-- the orders of laws.markAtomS -/
def s55 (_ : Nat) : Tr := .nil
theorem s55_ok : okCode E 28 s55 (Tryz.f55.body.getD .skip) = true := by kernel_rfl
/-- the orders of laws.markIntS -/
def s56 (_ : Nat) : Tr := .nil
theorem s56_ok : okCode E 19 s56 (Tryz.f56.body.getD .skip) = true := by kernel_rfl
/-- the orders of laws.heldQuery -/
def s57 (_ : Nat) : Tr := .nil
theorem s57_ok : okCode E 18 s57 (Tryz.f57.body.getD .skip) = true := by kernel_rfl
/-- the orders of laws.szRelation -/
def s58 (_ : Nat) : Tr := .nil
theorem s58_ok : okCode E 12 s58 (Tryz.f58.body.getD .skip) = true := by kernel_rfl
/-- the orders of spec.ApplyDelta -/
def s59 (_ : Nat) : Tr := .nil
theorem s59_ok : okCode E 61 s59 (Tryz.f59.body.getD .skip) = true := by kernel_rfl
/-- the orders of spec.AddCounted -/
def s60 (i : Nat) : Tr := if i = 3 then .seq [0, 1, 3, 4, 6, 7, 10, 11, 13, 14] (.both (.seq [2] (.both (.app 5 [25, 31, 35, 38] (.both (.app 8 [25, 35, 38] (.both (.seq [9] (.both (.app 12 [25, 38] (.both (.app 15 [25] (.both (.seq [16, 17, 18, 19, 20, 21, 22] .nil) (.seq [20, 16, 17, 18, 19, 21, 22] .nil))) (.seq [20] (.app 15 [25] (.seq [16, 17, 18, 19, 21, 22] .nil))))) (.seq [20] (.app 12 [25, 38] (.app 15 [25] (.seq [16, 17, 18, 19, 21, 22] .nil)))))) (.seq [20, 9] (.app 12 [25, 38] (.app 15 [25] (.seq [16, 17, 18, 19, 21, 22] .nil)))))) (.both (.seq [9] (.both (.app 8 [25, 35, 38] (.both (.app 12 [25, 38] (.both (.app 15 [25] (.both (.seq [16, 17, 18, 19, 20, 21, 22] .nil) (.seq [20, 16, 17, 18, 19, 21, 22] .nil))) (.seq [20] (.app 15 [25] (.seq [16, 17, 18, 19, 21, 22] .nil))))) (.seq [20] (.app 12 [25, 38] (.app 15 [25] (.seq [16, 17, 18, 19, 21, 22] .nil)))))) (.seq [20] (.app 8 [25, 35, 38] (.app 12 [25, 38] (.app 15 [25] (.seq [16, 17, 18, 19, 21, 22] .nil))))))) (.seq [20] (.both (.app 8 [25, 35, 38] (.seq [9] (.app 12 [25, 38] (.app 15 [25] (.seq [16, 17, 18, 19, 21, 22] .nil))))) (.seq [9] (.app 8 [25, 35, 38] (.app 12 [25, 38] (.app 15 [25] (.seq [16, 17, 18, 19, 21, 22] .nil)))))))))) (.both (.seq [9] (.both (.app 5 [25, 31, 35, 38] (.both (.app 8 [25, 35, 38] (.both (.app 12 [25, 38] (.both (.app 15 [25] (.both (.seq [16, 17, 18, 19, 20, 21, 22] .nil) (.seq [20, 16, 17, 18, 19, 21, 22] .nil))) (.seq [20] (.app 15 [25] (.seq [16, 17, 18, 19, 21, 22] .nil))))) (.seq [20] (.app 12 [25, 38] (.app 15 [25] (.seq [16, 17, 18, 19, 21, 22] .nil)))))) (.seq [20] (.app 8 [25, 35, 38] (.app 12 [25, 38] (.app 15 [25] (.seq [16, 17, 18, 19, 21, 22] .nil))))))) (.seq [20] (.app 5 [25, 31, 35, 38] (.app 8 [25, 35, 38] (.app 12 [25, 38] (.app 15 [25] (.seq [16, 17, 18, 19, 21, 22] .nil)))))))) (.seq [20] (.both (.app 5 [25, 31, 35, 38] (.both (.app 8 [25, 35, 38] (.seq [9] (.app 12 [25, 38] (.app 15 [25] (.seq [16, 17, 18, 19, 21, 22] .nil))))) (.seq [9] (.app 8 [25, 35, 38] (.app 12 [25, 38] (.app 15 [25] (.seq [16, 17, 18, 19, 21, 22] .nil))))))) (.seq [9] (.app 5 [25, 31, 35, 38] (.app 8 [25, 35, 38] (.app 12 [25, 38] (.app 15 [25] (.seq [16, 17, 18, 19, 21, 22] .nil))))))))))) (.both (.seq [9] (.both (.seq [2] (.both (.app 5 [25, 31, 35, 38] (.both (.app 8 [25, 35, 38] (.both (.app 12 [25, 38] (.both (.app 15 [25] (.both (.seq [16, 17, 18, 19, 20, 21, 22] .nil) (.seq [20, 16, 17, 18, 19, 21, 22] .nil))) (.seq [20] (.app 15 [25] (.seq [16, 17, 18, 19, 21, 22] .nil))))) (.seq [20] (.app 12 [25, 38] (.app 15 [25] (.seq [16, 17, 18, 19, 21, 22] .nil)))))) (.seq [20] (.app 8 [25, 35, 38] (.app 12 [25, 38] (.app 15 [25] (.seq [16, 17, 18, 19, 21, 22] .nil))))))) (.seq [20] (.app 5 [25, 31, 35, 38] (.app 8 [25, 35, 38] (.app 12 [25, 38] (.app 15 [25] (.seq [16, 17, 18, 19, 21, 22] .nil)))))))) (.seq [20, 2] (.app 5 [25, 31, 35, 38] (.app 8 [25, 35, 38] (.app 12 [25, 38] (.app 15 [25] (.seq [16, 17, 18, 19, 21, 22] .nil)))))))) (.seq [20] (.both (.seq [2] (.both (.app 5 [25, 31, 35, 38] (.both (.app 8 [25, 35, 38] (.seq [9] (.app 12 [25, 38] (.app 15 [25] (.seq [16, 17, 18, 19, 21, 22] .nil))))) (.seq [9] (.app 8 [25, 35, 38] (.app 12 [25, 38] (.app 15 [25] (.seq [16, 17, 18, 19, 21, 22] .nil))))))) (.seq [9] (.app 5 [25, 31, 35, 38] (.app 8 [25, 35, 38] (.app 12 [25, 38] (.app 15 [25] (.seq [16, 17, 18, 19, 21, 22] .nil)))))))) (.seq [9, 2] (.app 5 [25, 31, 35, 38] (.app 8 [25, 35, 38] (.app 12 [25, 38] (.app 15 [25] (.seq [16, 17, 18, 19, 21, 22] .nil)))))))))) else .nil
theorem s60_3 : s60 3 = .seq [0, 1, 3, 4, 6, 7, 10, 11, 13, 14] (.both (.seq [2] (.both (.app 5 [25, 31, 35, 38] (.both (.app 8 [25, 35, 38] (.both (.seq [9] (.both (.app 12 [25, 38] (.both (.app 15 [25] (.both (.seq [16, 17, 18, 19, 20, 21, 22] .nil) (.seq [20, 16, 17, 18, 19, 21, 22] .nil))) (.seq [20] (.app 15 [25] (.seq [16, 17, 18, 19, 21, 22] .nil))))) (.seq [20] (.app 12 [25, 38] (.app 15 [25] (.seq [16, 17, 18, 19, 21, 22] .nil)))))) (.seq [20, 9] (.app 12 [25, 38] (.app 15 [25] (.seq [16, 17, 18, 19, 21, 22] .nil)))))) (.both (.seq [9] (.both (.app 8 [25, 35, 38] (.both (.app 12 [25, 38] (.both (.app 15 [25] (.both (.seq [16, 17, 18, 19, 20, 21, 22] .nil) (.seq [20, 16, 17, 18, 19, 21, 22] .nil))) (.seq [20] (.app 15 [25] (.seq [16, 17, 18, 19, 21, 22] .nil))))) (.seq [20] (.app 12 [25, 38] (.app 15 [25] (.seq [16, 17, 18, 19, 21, 22] .nil)))))) (.seq [20] (.app 8 [25, 35, 38] (.app 12 [25, 38] (.app 15 [25] (.seq [16, 17, 18, 19, 21, 22] .nil))))))) (.seq [20] (.both (.app 8 [25, 35, 38] (.seq [9] (.app 12 [25, 38] (.app 15 [25] (.seq [16, 17, 18, 19, 21, 22] .nil))))) (.seq [9] (.app 8 [25, 35, 38] (.app 12 [25, 38] (.app 15 [25] (.seq [16, 17, 18, 19, 21, 22] .nil)))))))))) (.both (.seq [9] (.both (.app 5 [25, 31, 35, 38] (.both (.app 8 [25, 35, 38] (.both (.app 12 [25, 38] (.both (.app 15 [25] (.both (.seq [16, 17, 18, 19, 20, 21, 22] .nil) (.seq [20, 16, 17, 18, 19, 21, 22] .nil))) (.seq [20] (.app 15 [25] (.seq [16, 17, 18, 19, 21, 22] .nil))))) (.seq [20] (.app 12 [25, 38] (.app 15 [25] (.seq [16, 17, 18, 19, 21, 22] .nil)))))) (.seq [20] (.app 8 [25, 35, 38] (.app 12 [25, 38] (.app 15 [25] (.seq [16, 17, 18, 19, 21, 22] .nil))))))) (.seq [20] (.app 5 [25, 31, 35, 38] (.app 8 [25, 35, 38] (.app 12 [25, 38] (.app 15 [25] (.seq [16, 17, 18, 19, 21, 22] .nil)))))))) (.seq [20] (.both (.app 5 [25, 31, 35, 38] (.both (.app 8 [25, 35, 38] (.seq [9] (.app 12 [25, 38] (.app 15 [25] (.seq [16, 17, 18, 19, 21, 22] .nil))))) (.seq [9] (.app 8 [25, 35, 38] (.app 12 [25, 38] (.app 15 [25] (.seq [16, 17, 18, 19, 21, 22] .nil))))))) (.seq [9] (.app 5 [25, 31, 35, 38] (.app 8 [25, 35, 38] (.app 12 [25, 38] (.app 15 [25] (.seq [16, 17, 18, 19, 21, 22] .nil))))))))))) (.both (.seq [9] (.both (.seq [2] (.both (.app 5 [25, 31, 35, 38] (.both (.app 8 [25, 35, 38] (.both (.app 12 [25, 38] (.both (.app 15 [25] (.both (.seq [16, 17, 18, 19, 20, 21, 22] .nil) (.seq [20, 16, 17, 18, 19, 21, 22] .nil))) (.seq [20] (.app 15 [25] (.seq [16, 17, 18, 19, 21, 22] .nil))))) (.seq [20] (.app 12 [25, 38] (.app 15 [25] (.seq [16, 17, 18, 19, 21, 22] .nil)))))) (.seq [20] (.app 8 [25, 35, 38] (.app 12 [25, 38] (.app 15 [25] (.seq [16, 17, 18, 19, 21, 22] .nil))))))) (.seq [20] (.app 5 [25, 31, 35, 38] (.app 8 [25, 35, 38] (.app 12 [25, 38] (.app 15 [25] (.seq [16, 17, 18, 19, 21, 22] .nil)))))))) (.seq [20, 2] (.app 5 [25, 31, 35, 38] (.app 8 [25, 35, 38] (.app 12 [25, 38] (.app 15 [25] (.seq [16, 17, 18, 19, 21, 22] .nil)))))))) (.seq [20] (.both (.seq [2] (.both (.app 5 [25, 31, 35, 38] (.both (.app 8 [25, 35, 38] (.seq [9] (.app 12 [25, 38] (.app 15 [25] (.seq [16, 17, 18, 19, 21, 22] .nil))))) (.seq [9] (.app 8 [25, 35, 38] (.app 12 [25, 38] (.app 15 [25] (.seq [16, 17, 18, 19, 21, 22] .nil))))))) (.seq [9] (.app 5 [25, 31, 35, 38] (.app 8 [25, 35, 38] (.app 12 [25, 38] (.app 15 [25] (.seq [16, 17, 18, 19, 21, 22] .nil)))))))) (.seq [9, 2] (.app 5 [25, 31, 35, 38] (.app 8 [25, 35, 38] (.app 12 [25, 38] (.app 15 [25] (.seq [16, 17, 18, 19, 21, 22] .nil)))))))))) := rfl
theorem s60_ok : okCode E 46 s60 (Tryz.f60.body.getD .skip) = true := by kernel_rfl
/-- the orders of spec.NegateCounted -/
def s61 (i : Nat) : Tr := if i = 6 then .seq [0, 1, 2, 3, 4, 5, 6, 7, 8, 9, 10, 11] .nil else .nil
theorem s61_6 : s61 6 = .seq [0, 1, 2, 3, 4, 5, 6, 7, 8, 9, 10, 11] .nil := rfl
theorem s61_ok : okCode E 34 s61 (Tryz.f61.body.getD .skip) = true := by kernel_rfl
/-- the orders of laws.toRelation -/
def s62 (_ : Nat) : Tr := .nil
theorem s62_ok : okCode E 12 s62 (Tryz.f62.body.getD .skip) = true := by kernel_rfl
/-- the orders of impl.ApplyDelta -/
def s63 (_ : Nat) : Tr := .nil
theorem s63_ok : okCode E 56 s63 (Tryz.f63.body.getD .skip) = true := by kernel_rfl
/-- the orders of impl.AddCounted -/
def s64 (_ : Nat) : Tr := .nil
theorem s64_ok : okCode E 57 s64 (Tryz.f64.body.getD .skip) = true := by kernel_rfl
/-- the orders of impl.NegateCounted -/
def s65 (i : Nat) : Tr := if i = 5 then .seq [0, 1, 2, 3, 4, 5, 6, 7, 8, 9, 10] .nil else .nil
theorem s65_5 : s65 5 = .seq [0, 1, 2, 3, 4, 5, 6, 7, 8, 9, 10] .nil := rfl
theorem s65_ok : okCode E 25 s65 (Tryz.f65.body.getD .skip) = true := by kernel_rfl
/-- the orders of laws.eqIntSS -/
def s66 (i : Nat) : Tr := if i = 6 then .seq [0, 1, 2, 3, 4, 5, 6, 7, 8, 9] .nil else .nil
theorem s66_6 : s66 6 = .seq [0, 1, 2, 3, 4, 5, 6, 7, 8, 9] .nil := rfl
theorem s66_ok : okCode E 27 s66 (Tryz.f66.body.getD .skip) = true := by kernel_rfl
/-- the orders of laws.eqRelation -/
def s67 (_ : Nat) : Tr := .nil
theorem s67_ok : okCode E 16 s67 (Tryz.f67.body.getD .skip) = true := by kernel_rfl
/-- the orders of laws.markRelation -/
def s68 (_ : Nat) : Tr := .nil
theorem s68_ok : okCode E 10 s68 (Tryz.f68.body.getD .skip) = true := by kernel_rfl
/-- the orders of laws.markIntSS -/
def s69 (_ : Nat) : Tr := .nil
theorem s69_ok : okCode E 19 s69 (Tryz.f69.body.getD .skip) = true := by kernel_rfl
/-- the orders of laws.heldIntSS -/
def s70 (_ : Nat) : Tr := .nil
theorem s70_ok : okCode E 21 s70 (Tryz.f70.body.getD .skip) = true := by kernel_rfl
/-- the orders of laws.heldIntS -/
def s71 (_ : Nat) : Tr := .nil
theorem s71_ok : okCode E 21 s71 (Tryz.f71.body.getD .skip) = true := by kernel_rfl
/-- the orders of laws.szCountedRelation -/
def s72 (_ : Nat) : Tr := .nil
theorem s72_ok : okCode E 18 s72 (Tryz.f72.body.getD .skip) = true := by kernel_rfl
/-- the orders of spec.IsValidView -/
def s73 (_ : Nat) : Tr := .nil
theorem s73_ok : okCode E 21 s73 (Tryz.f73.body.getD .skip) = true := by kernel_rfl
/-- the orders of laws.toCountedRelation -/
def s74 (_ : Nat) : Tr := .nil
theorem s74_ok : okCode E 16 s74 (Tryz.f74.body.getD .skip) = true := by kernel_rfl
/-- the orders of impl.IsValidView -/
def s75 (_ : Nat) : Tr := .nil
theorem s75_ok : okCode E 22 s75 (Tryz.f75.body.getD .skip) = true := by kernel_rfl
/-- the orders of spec.IsValidBatch -/
def s76 (_ : Nat) : Tr := .nil
theorem s76_ok : okCode E 16 s76 (Tryz.f76.body.getD .skip) = true := by kernel_rfl
/-- the orders of spec.l6Copy -/
def s77 (i : Nat) : Tr := if i = 6 then .seq [0, 1, 2, 3, 4, 5, 6, 7, 8, 9, 10, 11, 12, 13] .nil else .nil
theorem s77_6 : s77 6 = .seq [0, 1, 2, 3, 4, 5, 6, 7, 8, 9, 10, 11, 12, 13] .nil := rfl
theorem s77_ok : okCode E 35 s77 (Tryz.f77.body.getD .skip) = true := by kernel_rfl
/-- the orders of impl.IsValidBatch -/
def s78 (_ : Nat) : Tr := .nil
theorem s78_ok : okCode E 16 s78 (Tryz.f78.body.getD .skip) = true := by kernel_rfl
/-- the orders of impl.copyCounted -/
def s79 (i : Nat) : Tr := if i = 1 then .seq [0, 1, 2, 3, 5, 6, 4, 7, 8, 9] .nil else .nil
theorem s79_1 : s79 1 = .seq [0, 1, 2, 3, 5, 6, 4, 7, 8, 9] .nil := rfl
theorem s79_ok : okCode E 12 s79 (Tryz.f79.body.getD .skip) = true := by kernel_rfl
/-- the orders of laws.markText -/
def s80 (_ : Nat) : Tr := .nil
theorem s80_ok : okCode E 20 s80 (Tryz.f80.body.getD .skip) = true := by kernel_rfl
/-- the orders of laws.szTable -/
def s81 (_ : Nat) : Tr := .nil
theorem s81_ok : okCode E 19 s81 (Tryz.f81.body.getD .skip) = true := by kernel_rfl
/-- the orders of laws.szAtom -/
def s82 (_ : Nat) : Tr := .nil
theorem s82_ok : okCode E 19 s82 (Tryz.f82.body.getD .skip) = true := by kernel_rfl
/-- the orders of spec.AllBindings -/
def s83 (i : Nat) : Tr := if i = 6 then .seq [0, 1, 2, 3, 4] (.both (.seq [5] (.both (.seq [6, 7, 8, 9, 10, 11, 12] .nil) (.seq [10, 6, 7, 8, 9, 11, 12] .nil))) (.seq [10, 5, 6, 7, 8, 9, 11, 12] .nil)) else .nil
theorem s83_6 : s83 6 = .seq [0, 1, 2, 3, 4] (.both (.seq [5] (.both (.seq [6, 7, 8, 9, 10, 11, 12] .nil) (.seq [10, 6, 7, 8, 9, 11, 12] .nil))) (.seq [10, 5, 6, 7, 8, 9, 11, 12] .nil)) := rfl
theorem s83_ok : okCode E 36 s83 (Tryz.f83.body.getD .skip) = true := by kernel_rfl
/-- the orders of spec.IsQueryFor -/
def s84 (i : Nat) : Tr := if i = 4 then .seq [0, 1, 2, 3, 4, 5, 6] (.both (.seq [7, 8, 9, 10, 11, 12, 13] .nil) (.seq [11, 7, 8, 9, 10, 12, 13] .nil)) else if i = 5 then .seq [0, 1, 2, 3, 4, 5, 6, 7, 8, 9, 10, 11, 12, 13] .nil else .nil
theorem s84_4 : s84 4 = .seq [0, 1, 2, 3, 4, 5, 6] (.both (.seq [7, 8, 9, 10, 11, 12, 13] .nil) (.seq [11, 7, 8, 9, 10, 12, 13] .nil)) := rfl
theorem s84_5 : s84 5 = .seq [0, 1, 2, 3, 4, 5, 6, 7, 8, 9, 10, 11, 12, 13] .nil := rfl
theorem s84_ok : okCode E 46 s84 (Tryz.f84.body.getD .skip) = true := by kernel_rfl
/-- the orders of spec.CountedFromRelation -/
def s85 (_ : Nat) : Tr := .nil
theorem s85_ok : okCode E 31 s85 (Tryz.f85.body.getD .skip) = true := by kernel_rfl
/-- the orders of spec.ProjectCounted -/
def s86 (i : Nat) : Tr := if i = 4 then .seq [0, 1, 2, 3, 4, 5, 6, 7, 8] .nil else .nil
theorem s86_4 : s86 4 = .seq [0, 1, 2, 3, 4, 5, 6, 7, 8] .nil := rfl
theorem s86_ok : okCode E 65 s86 (Tryz.f86.body.getD .skip) = true := by kernel_rfl
/-- the orders of laws.toTable -/
def s87 (_ : Nat) : Tr := .nil
theorem s87_ok : okCode E 12 s87 (Tryz.f87.body.getD .skip) = true := by kernel_rfl
/-- the orders of laws.toAtom -/
def s88 (_ : Nat) : Tr := .nil
theorem s88_ok : okCode E 12 s88 (Tryz.f88.body.getD .skip) = true := by kernel_rfl
/-- the orders of impl.IsQueryFor -/
def s89 (_ : Nat) : Tr := .nil
theorem s89_ok : okCode E 42 s89 (Tryz.f89.body.getD .skip) = true := by kernel_rfl
/-- the orders of impl.AtomRelation -/
def s90 (i : Nat) : Tr := if i = 1 then .seq [0, 2, 3, 1, 4, 5, 6] .nil else .nil
theorem s90_1 : s90 1 = .seq [0, 2, 3, 1, 4, 5, 6] .nil := rfl
theorem s90_ok : okCode E 11 s90 (Tryz.f90.body.getD .skip) = true := by kernel_rfl
/-- the orders of impl.unite -/
def s91 (i : Nat) : Tr := if i = 9 then .seq [0, 1, 2, 4, 7, 8, 9] (.both (.seq [3, 5, 6, 10, 11] .nil) (.seq [5, 3, 6, 10, 11] .nil)) else .nil
theorem s91_9 : s91 9 = .seq [0, 1, 2, 4, 7, 8, 9] (.both (.seq [3, 5, 6, 10, 11] .nil) (.seq [5, 3, 6, 10, 11] .nil)) := rfl
theorem s91_ok : okCode E 56 s91 (Tryz.f91.body.getD .skip) = true := by kernel_rfl
/-- the orders of impl.glue -/
def s92 (i : Nat) : Tr := if i = 7 then .seq [0, 1, 2, 3, 4, 5, 6, 7, 8, 9, 10, 11, 12, 13, 14, 15, 16, 17] .nil else .nil
theorem s92_7 : s92 7 = .seq [0, 1, 2, 3, 4, 5, 6, 7, 8, 9, 10, 11, 12, 13, 14, 15, 16, 17] .nil := rfl
theorem s92_ok : okCode E 67 s92 (Tryz.f92.body.getD .skip) = true := by kernel_rfl
/-- the orders of impl.sorted -/
def s93 (i : Nat) : Tr := if i = 4 then .seq [0, 1, 2, 4, 5, 6, 3, 7, 8, 9] .nil else if i = 11 then .seq [0, 1, 2, 3, 4, 5, 6, 7] .nil else .nil
theorem s93_4 : s93 4 = .seq [0, 1, 2, 4, 5, 6, 3, 7, 8, 9] .nil := rfl
theorem s93_11 : s93 11 = .seq [0, 1, 2, 3, 4, 5, 6, 7] .nil := rfl
theorem s93_ok : okCode E 68 s93 (Tryz.f93.body.getD .skip) = true := by kernel_rfl
/-- the orders of impl.IsValidRelation -/
def s94 (_ : Nat) : Tr := .nil
theorem s94_ok : okCode E 8 s94 (Tryz.f94.body.getD .skip) = true := by kernel_rfl
/-- the orders of impl.copyRows -/
def s95 (_ : Nat) : Tr := .nil
theorem s95_ok : okCode E 19 s95 (Tryz.f95.body.getD .skip) = true := by kernel_rfl
/-- the orders of impl.IsValidCounted -/
def s96 (_ : Nat) : Tr := .nil
theorem s96_ok : okCode E 35 s96 (Tryz.f96.body.getD .skip) = true := by kernel_rfl
/-- the orders of impl.columnsFit -/
def s97 (_ : Nat) : Tr := .nil
theorem s97_ok : okCode E 22 s97 (Tryz.f97.body.getD .skip) = true := by kernel_rfl
/-- the orders of impl.tally -/
def s98 (i : Nat) : Tr := if i = 3 then .seq [0, 2, 3, 4, 5, 6, 7, 9, 13, 14, 15, 16, 17, 18, 1] (.app 8 [43] (.seq [10, 11] (.app 12 [43] (.seq [19, 20, 21, 22] .nil)))) else if i = 4 then .seq [0, 1, 2, 3, 4, 5, 6, 8, 11, 12, 13, 14, 15, 16] (.both (.seq [7, 9] (.app 10 [63] (.seq [17, 18, 19, 20] .nil))) (.seq [9, 7] (.app 10 [63] (.seq [17, 18, 19, 20] .nil)))) else .nil
theorem s98_3 : s98 3 = .seq [0, 2, 3, 4, 5, 6, 7, 9, 13, 14, 15, 16, 17, 18, 1] (.app 8 [43] (.seq [10, 11] (.app 12 [43] (.seq [19, 20, 21, 22] .nil)))) := rfl
theorem s98_4 : s98 4 = .seq [0, 1, 2, 3, 4, 5, 6, 8, 11, 12, 13, 14, 15, 16] (.both (.seq [7, 9] (.app 10 [63] (.seq [17, 18, 19, 20] .nil))) (.seq [9, 7] (.app 10 [63] (.seq [17, 18, 19, 20] .nil)))) := rfl
theorem s98_ok : okCode E 70 s98 (Tryz.f98.body.getD .skip) = true := by kernel_rfl
/-- the orders of impl.pick -/
def s99 (_ : Nat) : Tr := .nil
theorem s99_ok : okCode E 24 s99 (Tryz.f99.body.getD .skip) = true := by kernel_rfl
/-- the orders of impl.settled -/
def s100 (i : Nat) : Tr := if i = 6 then .seq [0, 1, 2, 3, 4, 5, 6, 7, 8, 9, 10] .nil else .nil
theorem s100_6 : s100 6 = .seq [0, 1, 2, 3, 4, 5, 6, 7, 8, 9, 10] .nil := rfl
theorem s100_ok : okCode E 37 s100 (Tryz.f100.body.getD .skip) = true := by kernel_rfl
/-- the orders of impl.copyInts -/
def s101 (_ : Nat) : Tr := .nil
theorem s101_ok : okCode E 6 s101 (Tryz.f101.body.getD .skip) = true := by kernel_rfl
/-- the orders of laws.eqTable -/
def s102 (_ : Nat) : Tr := .nil
theorem s102_ok : okCode E 16 s102 (Tryz.f102.body.getD .skip) = true := by kernel_rfl
/-- the orders of laws.eqAtom -/
def s103 (_ : Nat) : Tr := .nil
theorem s103_ok : okCode E 16 s103 (Tryz.f103.body.getD .skip) = true := by kernel_rfl
/-- the orders of laws.heldAtomS -/
def s104 (i : Nat) : Tr := if i = 4 then .seq [0, 1, 2, 3, 4, 5, 6, 7] .nil else .nil
theorem s104_4 : s104 4 = .seq [0, 1, 2, 3, 4, 5, 6, 7] .nil := rfl
theorem s104_ok : okCode E 32 s104 (Tryz.f104.body.getD .skip) = true := by kernel_rfl
/-- the orders of laws.szIntSS -/
def s105 (_ : Nat) : Tr := .nil
theorem s105_ok : okCode E 27 s105 (Tryz.f105.body.getD .skip) = true := by kernel_rfl
/-- the orders of spec.NormalizeDelta -/
def s106 (_ : Nat) : Tr := .nil
theorem s106_ok : okCode E 60 s106 (Tryz.f106.body.getD .skip) = true := by kernel_rfl
/-- the orders of spec.LookupRelation -/
def s107 (_ : Nat) : Tr := .nil
theorem s107_ok : okCode E 34 s107 (Tryz.f107.body.getD .skip) = true := by kernel_rfl
/-- the orders of spec.Difference -/
def s108 (i : Nat) : Tr := if i = 7 then .seq [0, 1, 2, 3, 4, 5, 6, 7, 8, 9, 10, 11] .nil else if i = 9 then .seq [0, 1, 3, 4, 5, 6, 7, 2] (.app 8 [48] (.seq [9, 10, 11, 12] .nil)) else .nil
theorem s108_7 : s108 7 = .seq [0, 1, 2, 3, 4, 5, 6, 7, 8, 9, 10, 11] .nil := rfl
theorem s108_9 : s108 9 = .seq [0, 1, 3, 4, 5, 6, 7, 2] (.app 8 [48] (.seq [9, 10, 11, 12] .nil)) := rfl
theorem s108_ok : okCode E 61 s108 (Tryz.f108.body.getD .skip) = true := by kernel_rfl
/-- the orders of spec.Union -/
def s109 (i : Nat) : Tr := if i = 3 then .seq [0, 1, 3, 4, 6, 7] (.both (.seq [2] (.both (.app 5 [25, 31] (.both (.app 8 [25] (.both (.seq [9, 10, 11, 12, 13, 14, 15] .nil) (.seq [13, 9, 10, 11, 12, 14, 15] .nil))) (.seq [13] (.app 8 [25] (.seq [9, 10, 11, 12, 14, 15] .nil))))) (.seq [13] (.app 5 [25, 31] (.app 8 [25] (.seq [9, 10, 11, 12, 14, 15] .nil)))))) (.seq [13, 2] (.app 5 [25, 31] (.app 8 [25] (.seq [9, 10, 11, 12, 14, 15] .nil))))) else .nil
theorem s109_3 : s109 3 = .seq [0, 1, 3, 4, 6, 7] (.both (.seq [2] (.both (.app 5 [25, 31] (.both (.app 8 [25] (.both (.seq [9, 10, 11, 12, 13, 14, 15] .nil) (.seq [13, 9, 10, 11, 12, 14, 15] .nil))) (.seq [13] (.app 8 [25] (.seq [9, 10, 11, 12, 14, 15] .nil))))) (.seq [13] (.app 5 [25, 31] (.app 8 [25] (.seq [9, 10, 11, 12, 14, 15] .nil)))))) (.seq [13, 2] (.app 5 [25, 31] (.app 8 [25] (.seq [9, 10, 11, 12, 14, 15] .nil))))) := rfl
theorem s109_ok : okCode E 39 s109 (Tryz.f109.body.getD .skip) = true := by kernel_rfl
/-- the orders of spec.SetRelation -/
def s110 (_ : Nat) : Tr := .nil
theorem s110_ok : okCode E 73 s110 (Tryz.f110.body.getD .skip) = true := by kernel_rfl
/-- the orders of spec.IsValidCounted -/
def s111 (_ : Nat) : Tr := .nil
theorem s111_ok : okCode E 42 s111 (Tryz.f111.body.getD .skip) = true := by kernel_rfl
/-- the orders of spec.l27Sum -/
def s112 (i : Nat) : Tr := if i = 8 then .seq [0, 1, 2, 3, 4, 5, 6, 7, 8, 9, 10] .nil else if i = 9 then .seq [0, 1, 2, 3, 4, 5, 6, 7, 8, 9, 10, 11, 12] .nil else if i = 15 then .seq [0, 1, 2, 3, 4, 5, 6, 7, 8, 9, 10] .nil else if i = 16 then .seq [0, 1, 2, 3, 4, 5, 6, 7, 8, 9] .nil else .nil
theorem s112_8 : s112 8 = .seq [0, 1, 2, 3, 4, 5, 6, 7, 8, 9, 10] .nil := rfl
theorem s112_9 : s112 9 = .seq [0, 1, 2, 3, 4, 5, 6, 7, 8, 9, 10, 11, 12] .nil := rfl
theorem s112_15 : s112 15 = .seq [0, 1, 2, 3, 4, 5, 6, 7, 8, 9, 10] .nil := rfl
theorem s112_16 : s112 16 = .seq [0, 1, 2, 3, 4, 5, 6, 7, 8, 9] .nil := rfl
theorem s112_ok : okCode E 94 s112 (Tryz.f112.body.getD .skip) = true := by kernel_rfl
/-- the orders of spec.l5Copy -/
def s113 (i : Nat) : Tr := if i = 5 then .seq [0, 1, 3, 4, 5, 6, 7, 2] (.app 8 [15] (.seq [9, 10, 11, 12] .nil)) else .nil
theorem s113_5 : s113 5 = .seq [0, 1, 3, 4, 5, 6, 7, 2] (.app 8 [15] (.seq [9, 10, 11, 12] .nil)) := rfl
theorem s113_ok : okCode E 28 s113 (Tryz.f113.body.getD .skip) = true := by kernel_rfl
/-- the orders of laws.toIntSS -/
def s114 (_ : Nat) : Tr := .nil
theorem s114_ok : okCode E 23 s114 (Tryz.f114.body.getD .skip) = true := by kernel_rfl
/-- the orders of impl.NormalizeDelta -/
def s115 (i : Nat) : Tr := if i = 9 then .seq [0, 1, 2, 3, 4, 5, 6, 7, 8, 9] .nil else if i = 15 then .seq [0, 1, 2, 3, 4, 5, 6, 7, 8, 9] .nil else .nil
theorem s115_9 : s115 9 = .seq [0, 1, 2, 3, 4, 5, 6, 7, 8, 9] .nil := rfl
theorem s115_15 : s115 15 = .seq [0, 1, 2, 3, 4, 5, 6, 7, 8, 9] .nil := rfl
theorem s115_ok : okCode E 82 s115 (Tryz.f115.body.getD .skip) = true := by kernel_rfl
/-- the orders of impl.copyDatabase -/
def s116 (i : Nat) : Tr := if i = 5 then .seq [0, 1, 2, 3, 4, 5, 6, 7, 8, 9, 10, 11] .nil else .nil
theorem s116_5 : s116 5 = .seq [0, 1, 2, 3, 4, 5, 6, 7, 8, 9, 10, 11] .nil := rfl
theorem s116_ok : okCode E 26 s116 (Tryz.f116.body.getD .skip) = true := by kernel_rfl
/-- the orders of impl.LookupRelation -/
def s117 (_ : Nat) : Tr := .nil
theorem s117_ok : okCode E 26 s117 (Tryz.f117.body.getD .skip) = true := by kernel_rfl
/-- the orders of impl.Difference -/
def s118 (i : Nat) : Tr := if i = 8 then .seq [0, 1, 2, 3, 4, 5, 6, 7] .nil else .nil
theorem s118_8 : s118 8 = .seq [0, 1, 2, 3, 4, 5, 6, 7] .nil := rfl
theorem s118_ok : okCode E 48 s118 (Tryz.f118.body.getD .skip) = true := by kernel_rfl
/-- the orders of impl.Union -/
def s119 (i : Nat) : Tr := if i = 3 then .seq [0, 1, 2, 3, 5, 6, 4] (.app 7 [22] (.seq [8, 9, 10, 11, 12] .nil)) else .nil
theorem s119_3 : s119 3 = .seq [0, 1, 2, 3, 5, 6, 4] (.app 7 [22] (.seq [8, 9, 10, 11, 12] .nil)) := rfl
theorem s119_ok : okCode E 33 s119 (Tryz.f119.body.getD .skip) = true := by kernel_rfl
/-- the orders of impl.SetRelation -/
def s120 (i : Nat) : Tr := if i = 10 then .seq [1, 2, 3, 4, 6, 9, 10, 11, 12] (.both (.seq [0] (.both (.app 5 [10, 68] (.seq [7] (.app 8 [68] (.seq [13, 14, 15] .nil)))) (.seq [7] (.app 5 [10, 68] (.app 8 [68] (.seq [13, 14, 15] .nil)))))) (.seq [7, 0] (.app 5 [10, 68] (.app 8 [68] (.seq [13, 14, 15] .nil))))) else .nil
theorem s120_10 : s120 10 = .seq [1, 2, 3, 4, 6, 9, 10, 11, 12] (.both (.seq [0] (.both (.app 5 [10, 68] (.seq [7] (.app 8 [68] (.seq [13, 14, 15] .nil)))) (.seq [7] (.app 5 [10, 68] (.app 8 [68] (.seq [13, 14, 15] .nil)))))) (.seq [7, 0] (.app 5 [10, 68] (.app 8 [68] (.seq [13, 14, 15] .nil))))) := rfl
theorem s120_ok : okCode E 80 s120 (Tryz.f120.body.getD .skip) = true := by kernel_rfl
/-- the orders of spec.EqualCounted -/
def s121 (_ : Nat) : Tr := .nil
theorem s121_ok : okCode E 27 s121 (Tryz.f121.body.getD .skip) = true := by kernel_rfl
/-- the orders of impl.EqualCounted -/
def s122 (_ : Nat) : Tr := .nil
theorem s122_ok : okCode E 24 s122 (Tryz.f122.body.getD .skip) = true := by kernel_rfl
/-- the orders of spec.ApplyBatch -/
def s123 (i : Nat) : Tr := if i = 7 then .seq [0, 1, 2, 3, 4] (.both (.seq [5, 6, 7, 8, 9, 10, 11] .nil) (.seq [9, 5, 6, 7, 8, 10, 11] .nil)) else .nil
theorem s123_7 : s123 7 = .seq [0, 1, 2, 3, 4] (.both (.seq [5, 6, 7, 8, 9, 10, 11] .nil) (.seq [9, 5, 6, 7, 8, 10, 11] .nil)) := rfl
theorem s123_ok : okCode E 47 s123 (Tryz.f123.body.getD .skip) = true := by kernel_rfl
/-- the orders of impl.ApplyBatch -/
def s124 (_ : Nat) : Tr := .nil
theorem s124_ok : okCode E 47 s124 (Tryz.f124.body.getD .skip) = true := by kernel_rfl
/-- the orders of spec.NewRelation -/
def s125 (_ : Nat) : Tr := .nil
theorem s125_ok : okCode E 40 s125 (Tryz.f125.body.getD .skip) = true := by kernel_rfl
/-- the orders of spec.l8Walk -/
def s126 (i : Nat) : Tr := if i = 4 then .seq [0, 1, 2, 3, 4, 5, 6] (.both (.seq [7, 8, 9, 10, 11, 12, 13] .nil) (.seq [11, 7, 8, 9, 10, 12, 13] .nil)) else if i = 14 then .seq [0, 1, 2, 3, 4, 5, 6, 7, 8, 9, 10, 11, 12, 13, 14, 15, 16, 17, 18, 19, 20] .nil else .nil
theorem s126_4 : s126 4 = .seq [0, 1, 2, 3, 4, 5, 6] (.both (.seq [7, 8, 9, 10, 11, 12, 13] .nil) (.seq [11, 7, 8, 9, 10, 12, 13] .nil)) := rfl
theorem s126_14 : s126 14 = .seq [0, 1, 2, 3, 4, 5, 6, 7, 8, 9, 10, 11, 12, 13, 14, 15, 16, 17, 18, 19, 20] .nil := rfl
theorem s126_ok : okCode E 107 s126 (Tryz.f126.body.getD .skip) = true := by kernel_rfl
/-- the orders of spec.IsValidQuery -/
def s127 (i : Nat) : Tr := if i = 11 then .seq [0, 1, 2, 3, 4, 5, 6, 7, 8, 9, 10, 11, 12, 13] .nil else if i = 26 then .seq [0, 1, 2, 3, 4, 5, 6, 7, 8, 9, 10, 11, 12, 13, 14, 15, 16, 17, 18, 19, 20, 21, 22] .nil else .nil
theorem s127_11 : s127 11 = .seq [0, 1, 2, 3, 4, 5, 6, 7, 8, 9, 10, 11, 12, 13] .nil := rfl
theorem s127_26 : s127 26 = .seq [0, 1, 2, 3, 4, 5, 6, 7, 8, 9, 10, 11, 12, 13, 14, 15, 16, 17, 18, 19, 20, 21, 22] .nil := rfl
theorem s127_ok : okCode E 134 s127 (Tryz.f127.body.getD .skip) = true := by kernel_rfl
/-- the orders of spec.IsValidDatabase -/
def s128 (i : Nat) : Tr := if i = 5 then .seq [0, 1, 2, 3, 4, 5, 6, 7, 8, 9, 10, 11, 12, 13, 14, 15, 16, 17, 18, 19, 20, 21, 22, 23, 24, 25, 26, 27, 28, 29, 30, 31, 32, 33, 34, 35, 36, 37, 38] .nil else .nil
theorem s128_5 : s128 5 = .seq [0, 1, 2, 3, 4, 5, 6, 7, 8, 9, 10, 11, 12, 13, 14, 15, 16, 17, 18, 19, 20, 21, 22, 23, 24, 25, 26, 27, 28, 29, 30, 31, 32, 33, 34, 35, 36, 37, 38] .nil := rfl
theorem s128_ok : okCode E 60 s128 (Tryz.f128.body.getD .skip) = true := by kernel_rfl
/-- the orders of spec.IsValidRelation -/
def s129 (i : Nat) : Tr := if i = 6 then .seq [0, 1, 2, 3, 4, 5, 6, 7, 8, 9, 10, 11, 12, 13, 14, 15, 16, 17, 18, 19, 20, 21, 22, 23, 24, 25, 26, 27, 28, 29, 30, 31, 32, 33, 34, 35, 36] .nil else .nil
theorem s129_6 : s129 6 = .seq [0, 1, 2, 3, 4, 5, 6, 7, 8, 9, 10, 11, 12, 13, 14, 15, 16, 17, 18, 19, 20, 21, 22, 23, 24, 25, 26, 27, 28, 29, 30, 31, 32, 33, 34, 35, 36] .nil := rfl
theorem s129_ok : okCode E 58 s129 (Tryz.f129.body.getD .skip) = true := by kernel_rfl
/-- the orders of spec.l1In -/
def s130 (_ : Nat) : Tr := .nil
theorem s130_ok : okCode E 15 s130 (Tryz.f130.body.getD .skip) = true := by kernel_rfl
/-- the orders of spec.l5Cols -/
def s131 (_ : Nat) : Tr := .nil
theorem s131_ok : okCode E 25 s131 (Tryz.f131.body.getD .skip) = true := by kernel_rfl
/-- the orders of impl.IsValidQuery -/
def s132 (_ : Nat) : Tr := .nil
theorem s132_ok : okCode E 76 s132 (Tryz.f132.body.getD .skip) = true := by kernel_rfl
/-- the orders of impl.IsValidDatabase -/
def s133 (i : Nat) : Tr := if i = 6 then .seq [0, 1, 2, 3, 4, 5, 6, 7, 8, 9, 10, 11, 12, 13, 14, 15, 16, 17, 18, 19, 20, 21, 22, 23, 24, 25, 26, 27, 28, 29, 30, 31, 32, 33, 34, 35, 36, 37, 38] .nil else .nil
theorem s133_6 : s133 6 = .seq [0, 1, 2, 3, 4, 5, 6, 7, 8, 9, 10, 11, 12, 13, 14, 15, 16, 17, 18, 19, 20, 21, 22, 23, 24, 25, 26, 27, 28, 29, 30, 31, 32, 33, 34, 35, 36, 37, 38] .nil := rfl
theorem s133_ok : okCode E 57 s133 (Tryz.f133.body.getD .skip) = true := by kernel_rfl
/-- the orders of impl.AtomVariables -/
def s134 (_ : Nat) : Tr := .nil
theorem s134_ok : okCode E 17 s134 (Tryz.f134.body.getD .skip) = true := by kernel_rfl
/-- the orders of impl.AtomBindings -/
def s135 (i : Nat) : Tr := if i = 16 then .seq [0, 1, 2, 3, 4, 5, 6, 7, 8, 9, 10, 11, 12] .nil else .nil
theorem s135_16 : s135 16 = .seq [0, 1, 2, 3, 4, 5, 6, 7, 8, 9, 10, 11, 12] .nil := rfl
theorem s135_ok : okCode E 98 s135 (Tryz.f135.body.getD .skip) = true := by kernel_rfl
/-- the orders of impl.indexOf -/
def s136 (_ : Nat) : Tr := .nil
theorem s136_ok : okCode E 19 s136 (Tryz.f136.body.getD .skip) = true := by kernel_rfl
/-- the orders of impl.CompareRows -/
def s137 (i : Nat) : Tr := if i = 4 then .seq [0, 1, 2, 3, 4, 5, 6, 7, 8] .nil else if i = 5 then .seq [0, 1, 2, 3, 4, 5, 6, 7, 8, 9] .nil else .nil
theorem s137_4 : s137 4 = .seq [0, 1, 2, 3, 4, 5, 6, 7, 8] .nil := rfl
theorem s137_5 : s137 5 = .seq [0, 1, 2, 3, 4, 5, 6, 7, 8, 9] .nil := rfl
theorem s137_ok : okCode E 41 s137 (Tryz.f137.body.getD .skip) = true := by kernel_rfl
/-- the orders of impl.rowsValid -/
def s138 (_ : Nat) : Tr := .nil
theorem s138_ok : okCode E 46 s138 (Tryz.f138.body.getD .skip) = true := by kernel_rfl
/-- the orders of impl.within -/
def s139 (_ : Nat) : Tr := .nil
theorem s139_ok : okCode E 15 s139 (Tryz.f139.body.getD .skip) = true := by kernel_rfl
/-- the orders of impl.place -/
def s140 (_ : Nat) : Tr := .nil
theorem s140_ok : okCode E 42 s140 (Tryz.f140.body.getD .skip) = true := by kernel_rfl
/-- the orders of spec.l26Fits -/
def s141 (_ : Nat) : Tr := .nil
theorem s141_ok : okCode E 41 s141 (Tryz.f141.body.getD .skip) = true := by kernel_rfl
/-- the orders of spec.l5Place -/
def s142 (_ : Nat) : Tr := .nil
theorem s142_ok : okCode E 46 s142 (Tryz.f142.body.getD .skip) = true := by kernel_rfl
/-- the orders of impl.applicable -/
def s143 (i : Nat) : Tr := if i = 3 then .seq [0, 1, 2, 3, 4, 5, 6, 7, 8, 9, 10, 11, 12, 14] (.both (.seq [13] (.both (.seq [15, 16, 17, 18, 19] .nil) (.seq [18, 15, 16, 17, 19] .nil))) (.both (.seq [15] (.both (.seq [13, 16, 17, 18, 19] .nil) (.seq [18, 13, 16, 17, 19] .nil))) (.seq [18, 13, 15, 16, 17, 19] .nil))) else .nil
theorem s143_3 : s143 3 = .seq [0, 1, 2, 3, 4, 5, 6, 7, 8, 9, 10, 11, 12, 14] (.both (.seq [13] (.both (.seq [15, 16, 17, 18, 19] .nil) (.seq [18, 15, 16, 17, 19] .nil))) (.both (.seq [15] (.both (.seq [13, 16, 17, 18, 19] .nil) (.seq [18, 13, 16, 17, 19] .nil))) (.seq [18, 13, 15, 16, 17, 19] .nil))) := rfl
theorem s143_ok : okCode E 44 s143 (Tryz.f143.body.getD .skip) = true := by kernel_rfl
/-- the orders of impl.ContainsRow -/
def s144 (_ : Nat) : Tr := .nil
theorem s144_ok : okCode E 19 s144 (Tryz.f144.body.getD .skip) = true := by kernel_rfl
/-- the orders of impl.copyRelation -/
def s145 (i : Nat) : Tr := if i = 1 then .seq [0, 1, 2, 3, 4, 5, 6] .nil else .nil
theorem s145_1 : s145 1 = .seq [0, 1, 2, 3, 4, 5, 6] .nil := rfl
theorem s145_ok : okCode E 9 s145 (Tryz.f145.body.getD .skip) = true := by kernel_rfl
/-- the orders of impl.NewRelation -/
def s146 (_ : Nat) : Tr := .nil
theorem s146_ok : okCode E 35 s146 (Tryz.f146.body.getD .skip) = true := by kernel_rfl
/-- the orders of spec.EqualRelations -/
def s147 (i : Nat) : Tr := if i = 6 then .seq [0, 1, 2, 3, 4, 5, 6, 7, 8, 9, 10, 11] .nil else .nil
theorem s147_6 : s147 6 = .seq [0, 1, 2, 3, 4, 5, 6, 7, 8, 9, 10, 11] .nil := rfl
theorem s147_ok : okCode E 39 s147 (Tryz.f147.body.getD .skip) = true := by kernel_rfl
/-- the orders of spec.CompareRows -/
def s148 (i : Nat) : Tr := if i = 4 then .seq [0, 1, 2, 3, 4, 5, 6, 7, 8] .nil else if i = 6 then .seq [0, 1, 2, 3, 4, 5, 6, 7, 8] .nil else .nil
theorem s148_4 : s148 4 = .seq [0, 1, 2, 3, 4, 5, 6, 7, 8] .nil := rfl
theorem s148_6 : s148 6 = .seq [0, 1, 2, 3, 4, 5, 6, 7, 8] .nil := rfl
theorem s148_ok : okCode E 46 s148 (Tryz.f148.body.getD .skip) = true := by kernel_rfl
/-- the orders of impl.sameRows -/
def s149 (i : Nat) : Tr := if i = 6 then .seq [0, 1, 2, 3, 4, 5, 6, 7, 8, 9] .nil else .nil
theorem s149_6 : s149 6 = .seq [0, 1, 2, 3, 4, 5, 6, 7, 8, 9] .nil := rfl
theorem s149_ok : okCode E 27 s149 (Tryz.f149.body.getD .skip) = true := by kernel_rfl
/-- the orders of impl.sameInts -/
def s150 (i : Nat) : Tr := if i = 6 then .seq [0, 1, 2, 3, 4, 5, 6, 7, 8] .nil else .nil
theorem s150_6 : s150 6 = .seq [0, 1, 2, 3, 4, 5, 6, 7, 8] .nil := rfl
theorem s150_ok : okCode E 26 s150 (Tryz.f150.body.getD .skip) = true := by kernel_rfl
/-- the orders of spec.AreValidValues -/
def s151 (_ : Nat) : Tr := .nil
theorem s151_ok : okCode E 16 s151 (Tryz.f151.body.getD .skip) = true := by kernel_rfl
/-- the orders of spec.l5Sort -/
def s152 (i : Nat) : Tr := if i = 13 then .seq [0, 1, 2, 3, 4, 5, 6, 7] .nil else .nil
theorem s152_13 : s152 13 = .seq [0, 1, 2, 3, 4, 5, 6, 7] .nil := rfl
theorem s152_ok : okCode E 80 s152 (Tryz.f152.body.getD .skip) = true := by kernel_rfl
/-- the orders of spec.IsValidName -/
def s153 (_ : Nat) : Tr := .nil
theorem s153_ok : okCode E 23 s153 (Tryz.f153.body.getD .skip) = true := by kernel_rfl
/-- the orders of spec.ContainsVariable -/
def s154 (_ : Nat) : Tr := .nil
theorem s154_ok : okCode E 20 s154 (Tryz.f154.body.getD .skip) = true := by kernel_rfl
/-- the orders of spec.l7Find -/
def s155 (_ : Nat) : Tr := .nil
theorem s155_ok : okCode E 19 s155 (Tryz.f155.body.getD .skip) = true := by kernel_rfl
/-- the orders of impl.isSetOf -/
def s156 (_ : Nat) : Tr := .nil
theorem s156_ok : okCode E 27 s156 (Tryz.f156.body.getD .skip) = true := by kernel_rfl
/-- the orders of impl.IsValidName -/
def s157 (_ : Nat) : Tr := .nil
theorem s157_ok : okCode E 5 s157 (Tryz.f157.body.getD .skip) = true := by kernel_rfl
/-- the orders of impl.ContainsVariable -/
def s158 (_ : Nat) : Tr := .nil
theorem s158_ok : okCode E 9 s158 (Tryz.f158.body.getD .skip) = true := by kernel_rfl
/-- the orders of impl.compareInts -/
def s159 (_ : Nat) : Tr := .nil
theorem s159_ok : okCode E 13 s159 (Tryz.f159.body.getD .skip) = true := by kernel_rfl
/-- the orders of impl.AreValidValues -/
def s160 (_ : Nat) : Tr := .nil
theorem s160_ok : okCode E 15 s160 (Tryz.f160.body.getD .skip) = true := by kernel_rfl
/-- the orders of impl.hasInt -/
def s161 (_ : Nat) : Tr := .nil
theorem s161_ok : okCode E 9 s161 (Tryz.f161.body.getD .skip) = true := by kernel_rfl
/-- the orders of impl.isLetters -/
def s162 (_ : Nat) : Tr := .nil
theorem s162_ok : okCode E 31 s162 (Tryz.f162.body.getD .skip) = true := by kernel_rfl
end Go.Proofs.YtggbpdjjlgejmaaGreat


namespace Go.Proofs.YtggbpdjjlgejmaaGreat
open Go.Vs Go.Proofs Go
set_option maxRecDepth 100000
set_option maxHeartbeats 1000000


theorem w_laws_markText (k : Int) (h0 : 1 ≤ k) (h1 : k ≤ 4611686018427387904) :
   VC Tryz.prog 80 [.d (.int .i64 k)] (fun _ r => r = .d (.str (mtext k))) := by
  refine VC.of E s80 (by kernel_rfl) Tryz.func80 (by rfl) (by kernel_rfl) (by simp [Tryz.f80]) (by simp [Tryz.f80]) s80_ok fun B => ?_
  simp [Tryz.f80, show ¬ k ≤ 0 by omega]
  refine loop_rule (X := Nat × Int × List UInt8) (fun x => x.1 ≤ 64 ∧ 0 ≤ x.2.1 ∧ x.2.1 < 2 ^ x.1 ∧ x.2.2.length + x.1 = 64 ∧ mdig x.1 x.2.1 x.2.2 = mdig 64 k []) (fun x => [(0, .d (.int .i64 x.2.1)), (3, .d (.str x.2.2))]) (fun _ => []) (fun x => x.1) (64, k, []) ?_ (by simp) (by simp) ?_
  · simp; omega
  · rintro ⟨n, q, o⟩ hs t m ⟨hi1, hi2, hi3, hi4, hi5⟩ hh
    simp only at hi1 hi2 hi3 hi4 hi5
    by_cases hq : 0 < q
    · obtain ⟨n, rfl⟩ : ∃ n', n = n' + 1 := by
        cases n with
        | zero => simp at hi3; omega
        | succ n => exact ⟨n, rfl⟩
      have e1 : q.tmod 10 = q % 10 := Int.tmod_eq_emod_of_nonneg hi2
      have e2 : q.tdiv 10 = q / 10 := Int.tdiv_eq_ediv_of_nonneg hi2
      have hp : (2 : Int) ^ (n + 1) = 2 * 2 ^ n := by rw [Int.pow_succ]; omega
      have hb : (2 : Int) ^ n ≤ 2 ^ 63 := by
        have : n ≤ 63 := by omega
        exact_mod_cast Nat.pow_le_pow_right (by decide : 0 < 2) this
      simp only [hp] at hi3
      have e3 : IntKind.i64.wrap (48 + q.tmod 10) = 48 + q.tmod 10 := by rw [e1]; exact wrap64_of (by omega) (by omega)
      have e4 : IntKind.i64.wrap (q.tdiv 10) = q.tdiv 10 := by rw [e2]; exact wrap64_of (by omega) (by simp at hb; omega)
      simp [hq, e3, e4, isB, toB]
      refine ⟨by omega, ?_⟩
      refine back (n, q.tdiv 10, UInt8.ofNat (IntKind.u8.wrap (48 + q.tmod 10)).toNat :: o) ⟨by simp; omega, by simp [e2]; omega, by simp [e2]; omega, by simp at hi4 ⊢; omega, ?_⟩ (by simp) rfl (by simp) (by simp) (by simp)
      rw [← hi5]
      simp only [mdig, if_pos hq]
    · have hz : q = 0 := by omega
      subst hz
      have : mdig n 0 o = o := by cases n <;> simp [mdig]
      rw [this] at hi5
      simp [mtext, ← hi5]
      omega

end Go.Proofs.YtggbpdjjlgejmaaGreat


namespace Go.Proofs.YtggbpdjjlgejmaaGreat
open Go.Vs Go.Proofs Go
set_option maxRecDepth 100000
set_option maxHeartbeats 1000000

theorem w_laws_szIntS (a : Sl (Int)) (left : Int) (h0 : 0 ≤ left) (h1 : left ≤ 1048576) (ha : okS okI a) :
   VC Tryz.prog 41 [.d (dSl cI a), .d (.int .i64 left)] (fun _ r => r = .d (.int .i64 (szv left (swS swI a)))) := by
  refine VC.of E s41 (by kernel_rfl) Tryz.func41 (by rfl) (by kernel_rfl) (by simp [Tryz.f41]) (by simp [Tryz.f41]) s41_ok fun B => ?_
  have ha1 := ha.1
  simp only [maxLen] at ha1
  have hw1 : IntKind.i64.wrap (left - (a.xs.length : Int)) = left - a.xs.length := wrap64_of (by omega) (by omega)
  have hwt : swS swI a = a.xs.length + sumW swI a.xs := rfl
  simp [Tryz.f41, dSl, hw1]
  have hz : sumW swI a.xs = 0 := by
    generalize a.xs = l
    induction l with
    | nil => rfl
    | cons b r ih => simp [swI, ih]
  refine ⟨fun h => ?_, fun h => ?_⟩
  · rw [szv_neg (by omega)]
  · rw [szv_pos (by omega)]; omega
theorem w_laws_eqIntS (a b : Sl (Int)) (ha : okS okI a) :
   VC Tryz.prog 53 [.d (dSl cI a), .d (dSl cI b)] (fun _ r => r = .d (.bool (plS plI a == plS plI b))) := by
  refine VC.of E s53 (by kernel_rfl) Tryz.func53 (by rfl) (by kernel_rfl) (by simp [Tryz.f53]) (by simp [Tryz.f53]) s53_ok fun B => ?_
  have ha1 := ha.1
  simp only [maxLen] at ha1
  simp [Tryz.f53, s53_6, dSl, plS]
  refine ⟨fun h e => h (by have := congrArg List.length e; simp at this; omega), fun hl => ?_⟩
  have hl' : a.xs.length = b.xs.length := by omega
  refine loop_rule (X := Nat) (fun i => i ≤ a.xs.length ∧ (a.xs.map plI).take i = (b.xs.map plI).take i) (fun i => [(0, .d (.sl a.id a.T (a.xs.map cI))), (1, .d (.sl b.id b.T (b.xs.map cI))), (5, .d (.int .i64 i))]) (fun _ => []) (fun i => a.xs.length - i) 0 (by simp) (by simp) (by simp) ?_
  intro i hs t m hi hh
  by_cases hlt : i < a.xs.length
  · have hwi := wr1 (i := i) (by omega)
    have hlb : i < b.xs.length := by omega
    have hst := eqm_step plI hlt hlb hi.2
    simp [cI, hlt, hlb, hwi, s53_6, ]
    simp only [plI] at hst
    refine ⟨fun hne he => hne (hst.2 (by rw [he])), fun heq => ?_⟩
    exact back (i + 1) ⟨by omega, hst.1 heq⟩ (by omega) rfl (by simp) (by simp) (by simp)
  · have := eq_all (a := a.xs.map plI) (b := b.xs.map plI) (by simpa using Nat.le_of_not_lt hlt) (by simpa using hl') hi.2
    have hlb : ¬ i < b.xs.length := by omega
    simp [hlt, hlb, this]
theorem w_laws_szIntSS (a : Sl (Sl (Int))) (left : Int) (h0 : 0 ≤ left) (h1 : left ≤ 1048576) (ha : okS (okS okI) a) :
   VC Tryz.prog 105 [.d (dSl (cS cI) a), .d (.int .i64 left)] (fun _ r => r = .d (.int .i64 (szv left (swS (swS swI) a)))) := by
  refine VC.of E s105 (by kernel_rfl) Tryz.func105 (by rfl) (by kernel_rfl) (by simp [Tryz.f105]) (by simp [Tryz.f105]) s105_ok fun B => ?_
  have ha1 := ha.1
  simp only [maxLen] at ha1
  have hw1 : IntKind.i64.wrap (left - (a.xs.length : Int)) = left - a.xs.length := wrap64_of (by omega) (by omega)
  have hwt : swS (swS swI) a = a.xs.length + sumW (swS swI) a.xs := rfl
  simp [Tryz.f105, dSl, hw1]
  refine ⟨fun h => ?_, fun h => ?_⟩
  · rw [szv_neg (by omega)]
  · refine loop_rule (X := Nat) (fun i => i ≤ a.xs.length ∧ 0 ≤ left - a.xs.length - sumW (swS swI) (a.xs.take i)) (fun i => [(0, .d (.sl a.id a.T (a.xs.map (cS cI)))), (1, .d (.int .i64 (left - a.xs.length - sumW (swS swI) (a.xs.take i)))), (5, .d (.int .i64 i))]) (fun _ => []) (fun i => a.xs.length - i) 0 ?_ ?_ (by simp) ?_
    · simp; omega
    · simp
    · intro i hs t m hi hh
      by_cases hlt : i < a.xs.length
      · simp [cS, hlt]
        refine call_pure (w_laws_szIntS a.xs[i] _ (by omega) (by omega) (ha.2 _ (List.getElem_mem _))) rfl (by simp) rfl fun hs' hh' => ?_
        have e1 := sumW_succ (swS swI) hlt
        have e2 := sumW_le (swS swI) a.xs (i + 1)
        have hwi := wr1 (i := i) (by omega)
        by_cases hc : (swS swI a.xs[i] : Int) ≤ left - a.xs.length - sumW (swS swI) (a.xs.take i)
        · rw [szv_pos hc]
          have hn : ¬ left - a.xs.length - sumW (swS swI) (a.xs.take i) - swS swI a.xs[i] < 0 := by omega
          simp [hwi, hn]
          refine back (i + 1) ⟨by omega, by omega⟩ (by omega) rfl (by simp at hh' ⊢; omega) ?_ (by simp)
          simp
          omega
        · rw [szv_neg (by omega)]
          simp
          rw [szv_neg (by omega)]
          all_goals exact fun h => absurd h (by decide)
      · have : i = a.xs.length := by omega
        subst this
        simp
        rw [szv_pos] <;> (simp at hi ⊢; omega)
theorem w_laws_eqIntSS (a b : Sl (Sl (Int))) (ha : okS (okS okI) a) :
   VC Tryz.prog 66 [.d (dSl (cS cI) a), .d (dSl (cS cI) b)] (fun _ r => r = .d (.bool (plS (plS plI) a == plS (plS plI) b))) := by
  refine VC.of E s66 (by kernel_rfl) Tryz.func66 (by rfl) (by kernel_rfl) (by simp [Tryz.f66]) (by simp [Tryz.f66]) s66_ok fun B => ?_
  have ha1 := ha.1
  simp only [maxLen] at ha1
  simp [Tryz.f66, s66_6, dSl, plS]
  refine ⟨fun h e => h (by have := congrArg List.length e; simp at this; omega), fun hl => ?_⟩
  have hl' : a.xs.length = b.xs.length := by omega
  refine loop_rule (X := Nat) (fun i => i ≤ a.xs.length ∧ (a.xs.map (plS plI)).take i = (b.xs.map (plS plI)).take i) (fun i => [(0, .d (.sl a.id a.T (a.xs.map (cS cI)))), (1, .d (.sl b.id b.T (b.xs.map (cS cI)))), (5, .d (.int .i64 i))]) (fun _ => []) (fun i => a.xs.length - i) 0 (by simp) (by simp) (by simp) ?_
  intro i hs t m hi hh
  by_cases hlt : i < a.xs.length
  · have hwi := wr1 (i := i) (by omega)
    have hlb : i < b.xs.length := by omega
    have hst := eqm_step (plS plI) hlt hlb hi.2
    simp [cS, hlt, hlb, s66_6, ]
    refine call_pure (w_laws_eqIntS a.xs[i] b.xs[i] (ha.2 _ (List.getElem_mem _))) rfl (by simp) rfl fun hs' hh' => ?_
    simp at hh'
    simp [hwi]
    refine ⟨fun hne he => hne (hst.2 (by rw [he])), fun heq => ?_⟩
    exact back (i + 1) ⟨by omega, hst.1 heq⟩ (by omega) rfl (by simp; omega) (by simp) (by simp)
  · have := eq_all (a := a.xs.map (plS plI)) (b := b.xs.map (plS plI)) (by simpa using Nat.le_of_not_lt hlt) (by simpa using hl') hi.2
    have hlb : ¬ i < b.xs.length := by omega
    simp [hlt, hlb, this]
theorem w_laws_szRelation (a : Reln) (left : Int) (h0 : 0 ≤ left) (h1 : left ≤ 1048576) (ha : okReln a) :
   VC Tryz.prog 58 [.agg ((cReln a).map V.d), .d (.int .i64 left)] (fun _ r => r = .d (.int .i64 (szv left (swReln a)))) := by
  refine VC.of E s58 (by kernel_rfl) Tryz.func58 (by rfl) (by kernel_rfl) (by simp [Tryz.f58]) (by simp [Tryz.f58]) s58_ok fun B => ?_
  have hwt : swReln a = swS (swS swI) a.rows := rfl
  have hc0 : (0 : Int) ≤ left := h0
  simp [Tryz.f58, cI, cReln, cS, dSl]
  refine call_pure (w_laws_szIntSS a.rows _ (by omega) (by omega) ha.2) rfl (by simp) rfl fun hs' hh' => ?_
  by_cases hb0 : (swS (swS swI) a.rows : Int) ≤ left
  · rw [szv_pos hb0]
    have hn0 : ¬ left - swS (swS swI) a.rows < 0 := by omega
    simp [hn0]
    rw [szv_pos (by omega)]; omega
  · rw [szv_neg (by omega)]
    simp
    try rw [szv_neg (by omega)]
    all_goals exact fun h => absurd h (by decide)
theorem w_laws_eqRelation (a b : Reln) (ha : okReln a) :
   VC Tryz.prog 67 [.agg ((cReln a).map V.d), .agg ((cReln b).map V.d)] (fun _ r => r = .d (.bool (plReln a == plReln b))) := by
  refine VC.of E s67 (by kernel_rfl) Tryz.func67 (by rfl) (by kernel_rfl) (by simp [Tryz.f67]) (by simp [Tryz.f67]) s67_ok fun B => ?_
  simp [Tryz.f67, cI, cReln, cS, dSl, plReln, plI, plStr]
  by_cases e0 : a.ar = b.ar
  case neg => simp [e0]
  simp [e0]
  refine call_pure (w_laws_eqIntSS a.rows b.rows ha.2) rfl (by simp) rfl fun hs1 hh1 => ?_
  by_cases e1 : plS (plS plI) a.rows = plS (plS plI) b.rows
  case neg => simp [e1]
  simp [e1]
theorem w_laws_szTable (a : Tab) (left : Int) (h0 : 0 ≤ left) (h1 : left ≤ 1048576) (ha : okTab a) :
   VC Tryz.prog 81 [.agg ((cTab a).map V.d), .d (.int .i64 left)] (fun _ r => r = .d (.int .i64 (szv left (swTab a)))) := by
  refine VC.of E s81 (by kernel_rfl) Tryz.func81 (by rfl) (by kernel_rfl) (by simp [Tryz.f81]) (by simp [Tryz.f81]) s81_ok fun B => ?_
  have hwt : swTab a = swStr a.name + swReln a.rel := rfl
  have hc0 : (0 : Int) ≤ left := h0
  have hs0 : a.name.length ≤ 9223372036854775807 := ha.1
  have hw0 : IntKind.i64.wrap (left - (a.name.length : Int)) = left - a.name.length := wrap64_of (by omega) (by omega)
  have hq0 : swStr a.name = a.name.length := rfl
  simp [Tryz.f81, cI, cReln, cS, cStr, cTab, dSl, hw0]
  refine ⟨fun hneg => ?_, fun hpos => ?_⟩
  · rw [szv_neg (by omega)]
  · skip
    refine call_pure (w_laws_szRelation a.rel _ (by omega) (by omega) ha.2) rfl (by simp) rfl fun hs' hh' => ?_
    by_cases hb1 : (swReln a.rel : Int) ≤ left - a.name.length
    · rw [szv_pos hb1]
      have hn1 : ¬ left - a.name.length - swReln a.rel < 0 := by omega
      simp [hn1]
      rw [szv_pos (by omega)]; omega
    · rw [szv_neg (by omega)]
      simp
      try rw [szv_neg (by omega)]
      all_goals exact fun h => absurd h (by decide)
theorem w_laws_eqTable (a b : Tab) (ha : okTab a) :
   VC Tryz.prog 102 [.agg ((cTab a).map V.d), .agg ((cTab b).map V.d)] (fun _ r => r = .d (.bool (plTab a == plTab b))) := by
  refine VC.of E s102 (by kernel_rfl) Tryz.func102 (by rfl) (by kernel_rfl) (by simp [Tryz.f102]) (by simp [Tryz.f102]) s102_ok fun B => ?_
  simp [Tryz.f102, cI, cReln, cS, cStr, cTab, dSl, plTab, plI, plStr]
  by_cases e0 : a.name = b.name
  case neg => simp [e0]
  simp [e0]
  refine call_pure (w_laws_eqRelation a.rel b.rel ha.2) rfl (by simp) rfl fun hs1 hh1 => ?_
  by_cases e1 : plReln a.rel = plReln b.rel
  case neg => simp [e1]
  simp [e1]
theorem w_laws_szTableS (a : Sl (Tab)) (left : Int) (h0 : 0 ≤ left) (h1 : left ≤ 1048576) (ha : okS okTab a) :
   VC Tryz.prog 39 [.d (dSl cTab a), .d (.int .i64 left)] (fun _ r => r = .d (.int .i64 (szv left (swS swTab a)))) := by
  refine VC.of E s39 (by kernel_rfl) Tryz.func39 (by rfl) (by kernel_rfl) (by simp [Tryz.f39]) (by simp [Tryz.f39]) s39_ok fun B => ?_
  have ha1 := ha.1
  simp only [maxLen] at ha1
  have hw1 : IntKind.i64.wrap (left - (a.xs.length : Int)) = left - a.xs.length := wrap64_of (by omega) (by omega)
  have hwt : swS swTab a = a.xs.length + sumW swTab a.xs := rfl
  simp [Tryz.f39, dSl, hw1]
  refine ⟨fun h => ?_, fun h => ?_⟩
  · rw [szv_neg (by omega)]
  · refine loop_rule (X := Nat) (fun i => i ≤ a.xs.length ∧ 0 ≤ left - a.xs.length - sumW swTab (a.xs.take i)) (fun i => [(0, .d (.sl a.id a.T (a.xs.map cTab))), (1, .d (.int .i64 (left - a.xs.length - sumW swTab (a.xs.take i)))), (5, .d (.int .i64 i))]) (fun _ => []) (fun i => a.xs.length - i) 0 ?_ ?_ (by simp) ?_
    · simp; omega
    · simp
    · intro i hs t m hi hh
      by_cases hlt : i < a.xs.length
      · simp [cI, cReln, cS, cStr, cTab, hlt]
        refine call_pure (w_laws_szTable a.xs[i] _ (by omega) (by omega) (ha.2 _ (List.getElem_mem _))) rfl (by simp) rfl fun hs' hh' => ?_
        have e1 := sumW_succ swTab hlt
        have e2 := sumW_le swTab a.xs (i + 1)
        have hwi := wr1 (i := i) (by omega)
        by_cases hc : (swTab a.xs[i] : Int) ≤ left - a.xs.length - sumW swTab (a.xs.take i)
        · rw [szv_pos hc]
          have hn : ¬ left - a.xs.length - sumW swTab (a.xs.take i) - swTab a.xs[i] < 0 := by omega
          simp [hwi, hn]
          refine back (i + 1) ⟨by omega, by omega⟩ (by omega) rfl (by simp at hh' ⊢; omega) ?_ (by simp)
          simp
          omega
        · rw [szv_neg (by omega)]
          simp
          rw [szv_neg (by omega)]
          all_goals exact fun h => absurd h (by decide)
      · have : i = a.xs.length := by omega
        subst this
        simp
        rw [szv_pos] <;> (simp at hi ⊢; omega)
theorem w_laws_eqTableS (a b : Sl (Tab)) (ha : okS okTab a) :
   VC Tryz.prog 51 [.d (dSl cTab a), .d (dSl cTab b)] (fun _ r => r = .d (.bool (plS plTab a == plS plTab b))) := by
  refine VC.of E s51 (by kernel_rfl) Tryz.func51 (by rfl) (by kernel_rfl) (by simp [Tryz.f51]) (by simp [Tryz.f51]) s51_ok fun B => ?_
  have ha1 := ha.1
  simp only [maxLen] at ha1
  simp [Tryz.f51, s51_6, dSl, plS]
  refine ⟨fun h e => h (by have := congrArg List.length e; simp at this; omega), fun hl => ?_⟩
  have hl' : a.xs.length = b.xs.length := by omega
  refine loop_rule (X := Nat) (fun i => i ≤ a.xs.length ∧ (a.xs.map plTab).take i = (b.xs.map plTab).take i) (fun i => [(0, .d (.sl a.id a.T (a.xs.map cTab))), (1, .d (.sl b.id b.T (b.xs.map cTab))), (5, .d (.int .i64 i))]) (fun _ => []) (fun i => a.xs.length - i) 0 (by simp) (by simp) (by simp) ?_
  intro i hs t m hi hh
  by_cases hlt : i < a.xs.length
  · have hwi := wr1 (i := i) (by omega)
    have hlb : i < b.xs.length := by omega
    have hst := eqm_step plTab hlt hlb hi.2
    simp [cI, cReln, cS, cStr, cTab, hlt, hlb, s51_6, ]
    refine call_pure (w_laws_eqTable a.xs[i] b.xs[i] (ha.2 _ (List.getElem_mem _))) rfl (by simp) rfl fun hs' hh' => ?_
    simp at hh'
    simp [hwi]
    refine ⟨fun hne he => hne (hst.2 (by rw [he])), fun heq => ?_⟩
    exact back (i + 1) ⟨by omega, hst.1 heq⟩ (by omega) rfl (by simp; omega) (by simp) (by simp)
  · have := eq_all (a := a.xs.map plTab) (b := b.xs.map plTab) (by simpa using Nat.le_of_not_lt hlt) (by simpa using hl') hi.2
    have hlb : ¬ i < b.xs.length := by omega
    simp [hlt, hlb, this]
theorem w_laws_szDatabase (a : Db) (left : Int) (h0 : 0 ≤ left) (h1 : left ≤ 1048576) (ha : okDb a) :
   VC Tryz.prog 7 [.agg ((cDb a).map V.d), .d (.int .i64 left)] (fun _ r => r = .d (.int .i64 (szv left (swDb a)))) := by
  refine VC.of E s7 (by kernel_rfl) Tryz.func7 (by rfl) (by kernel_rfl) (by simp [Tryz.f7]) (by simp [Tryz.f7]) s7_ok fun B => ?_
  have hwt : swDb a = swS swTab a.tabs := rfl
  have hc0 : (0 : Int) ≤ left := h0
  simp [Tryz.f7, cDb, cS, dSl]
  refine call_pure (w_laws_szTableS a.tabs _ (by omega) (by omega) ha) rfl (by simp) rfl fun hs' hh' => ?_
  by_cases hb0 : (swS swTab a.tabs : Int) ≤ left
  · rw [szv_pos hb0]
    have hn0 : ¬ left - swS swTab a.tabs < 0 := by omega
    simp [hn0]
    rw [szv_pos (by omega)]; omega
  · rw [szv_neg (by omega)]
    simp
    try rw [szv_neg (by omega)]
    all_goals exact fun h => absurd h (by decide)
theorem w_laws_eqDatabase (a b : Db) (ha : okDb a) :
   VC Tryz.prog 14 [.agg ((cDb a).map V.d), .agg ((cDb b).map V.d)] (fun _ r => r = .d (.bool (plDb a == plDb b))) := by
  refine VC.of E s14 (by kernel_rfl) Tryz.func14 (by rfl) (by kernel_rfl) (by simp [Tryz.f14]) (by simp [Tryz.f14]) s14_ok fun B => ?_
  simp [Tryz.f14, cDb, cS, dSl, plDb, plI, plStr]
  refine call_pure (w_laws_eqTableS a.tabs b.tabs ha) rfl (by simp) rfl fun hs0 hh0 => ?_
  by_cases e0 : plS plTab a.tabs = plS plTab b.tabs
  case neg => simp [e0]
  simp [e0]
theorem w_laws_szDelta (a : Delta) (left : Int) (h0 : 0 ≤ left) (h1 : left ≤ 1048576) (ha : okDelta a) :
   VC Tryz.prog 20 [.agg ((cDelta a).map V.d), .d (.int .i64 left)] (fun _ r => r = .d (.int .i64 (szv left (swDelta a)))) := by
  refine VC.of E s20 (by kernel_rfl) Tryz.func20 (by rfl) (by kernel_rfl) (by simp [Tryz.f20]) (by simp [Tryz.f20]) s20_ok fun B => ?_
  have hwt : swDelta a = swStr a.name + swReln a.ins + swReln a.del := rfl
  have hc0 : (0 : Int) ≤ left := h0
  have hs0 : a.name.length ≤ 9223372036854775807 := ha.1
  have hw0 : IntKind.i64.wrap (left - (a.name.length : Int)) = left - a.name.length := wrap64_of (by omega) (by omega)
  have hq0 : swStr a.name = a.name.length := rfl
  simp [Tryz.f20, cDelta, cI, cReln, cS, cStr, dSl, hw0]
  refine ⟨fun hneg => ?_, fun hpos => ?_⟩
  · rw [szv_neg (by omega)]
  · skip
    refine call_pure (w_laws_szRelation a.ins _ (by omega) (by omega) ha.2.1) rfl (by simp) rfl fun hs' hh' => ?_
    by_cases hb1 : (swReln a.ins : Int) ≤ left - a.name.length
    · rw [szv_pos hb1]
      have hn1 : ¬ left - a.name.length - swReln a.ins < 0 := by omega
      simp [hn1]
      refine call_pure (w_laws_szRelation a.del _ (by omega) (by omega) ha.2.2) rfl (by simp) rfl fun hs' hh' => ?_
      by_cases hb2 : (swReln a.del : Int) ≤ left - a.name.length - swReln a.ins
      · rw [szv_pos hb2]
        have hn2 : ¬ left - a.name.length - swReln a.ins - swReln a.del < 0 := by omega
        simp [hn2]
        rw [szv_pos (by omega)]; omega
      · rw [szv_neg (by omega)]
        simp
        try rw [szv_neg (by omega)]
        all_goals exact fun h => absurd h (by decide)
    · rw [szv_neg (by omega)]
      simp
      try rw [szv_neg (by omega)]
      all_goals exact fun h => absurd h (by decide)
theorem w_laws_eqDelta (a b : Delta) (ha : okDelta a) :
   VC Tryz.prog 25 [.agg ((cDelta a).map V.d), .agg ((cDelta b).map V.d)] (fun _ r => r = .d (.bool (plDelta a == plDelta b))) := by
  refine VC.of E s25 (by kernel_rfl) Tryz.func25 (by rfl) (by kernel_rfl) (by simp [Tryz.f25]) (by simp [Tryz.f25]) s25_ok fun B => ?_
  simp [Tryz.f25, cDelta, cI, cReln, cS, cStr, dSl, plDelta, plI, plStr]
  by_cases e0 : a.name = b.name
  case neg => simp [e0]
  simp [e0]
  refine call_pure (w_laws_eqRelation a.ins b.ins ha.2.1) rfl (by simp) rfl fun hs1 hh1 => ?_
  by_cases e1 : plReln a.ins = plReln b.ins
  case neg => simp [e1]
  simp [e1]
  refine call_pure (w_laws_eqRelation a.del b.del ha.2.2) rfl (by simp) rfl fun hs2 hh2 => ?_
  by_cases e2 : plReln a.del = plReln b.del
  case neg => simp [e2]
  simp [e2]
theorem w_laws_szDeltaS (a : Sl (Delta)) (left : Int) (h0 : 0 ≤ left) (h1 : left ≤ 1048576) (ha : okS okDelta a) :
   VC Tryz.prog 33 [.d (dSl cDelta a), .d (.int .i64 left)] (fun _ r => r = .d (.int .i64 (szv left (swS swDelta a)))) := by
  refine VC.of E s33 (by kernel_rfl) Tryz.func33 (by rfl) (by kernel_rfl) (by simp [Tryz.f33]) (by simp [Tryz.f33]) s33_ok fun B => ?_
  have ha1 := ha.1
  simp only [maxLen] at ha1
  have hw1 : IntKind.i64.wrap (left - (a.xs.length : Int)) = left - a.xs.length := wrap64_of (by omega) (by omega)
  have hwt : swS swDelta a = a.xs.length + sumW swDelta a.xs := rfl
  simp [Tryz.f33, dSl, hw1]
  refine ⟨fun h => ?_, fun h => ?_⟩
  · rw [szv_neg (by omega)]
  · refine loop_rule (X := Nat) (fun i => i ≤ a.xs.length ∧ 0 ≤ left - a.xs.length - sumW swDelta (a.xs.take i)) (fun i => [(0, .d (.sl a.id a.T (a.xs.map cDelta))), (1, .d (.int .i64 (left - a.xs.length - sumW swDelta (a.xs.take i)))), (5, .d (.int .i64 i))]) (fun _ => []) (fun i => a.xs.length - i) 0 ?_ ?_ (by simp) ?_
    · simp; omega
    · simp
    · intro i hs t m hi hh
      by_cases hlt : i < a.xs.length
      · simp [cDelta, cI, cReln, cS, cStr, hlt]
        refine call_pure (w_laws_szDelta a.xs[i] _ (by omega) (by omega) (ha.2 _ (List.getElem_mem _))) rfl (by simp) rfl fun hs' hh' => ?_
        have e1 := sumW_succ swDelta hlt
        have e2 := sumW_le swDelta a.xs (i + 1)
        have hwi := wr1 (i := i) (by omega)
        by_cases hc : (swDelta a.xs[i] : Int) ≤ left - a.xs.length - sumW swDelta (a.xs.take i)
        · rw [szv_pos hc]
          have hn : ¬ left - a.xs.length - sumW swDelta (a.xs.take i) - swDelta a.xs[i] < 0 := by omega
          simp [hwi, hn]
          refine back (i + 1) ⟨by omega, by omega⟩ (by omega) rfl (by simp at hh' ⊢; omega) ?_ (by simp)
          simp
          omega
        · rw [szv_neg (by omega)]
          simp
          rw [szv_neg (by omega)]
          all_goals exact fun h => absurd h (by decide)
      · have : i = a.xs.length := by omega
        subst this
        simp
        rw [szv_pos] <;> (simp at hi ⊢; omega)
theorem w_laws_eqDeltaS (a b : Sl (Delta)) (ha : okS okDelta a) :
   VC Tryz.prog 37 [.d (dSl cDelta a), .d (dSl cDelta b)] (fun _ r => r = .d (.bool (plS plDelta a == plS plDelta b))) := by
  refine VC.of E s37 (by kernel_rfl) Tryz.func37 (by rfl) (by kernel_rfl) (by simp [Tryz.f37]) (by simp [Tryz.f37]) s37_ok fun B => ?_
  have ha1 := ha.1
  simp only [maxLen] at ha1
  simp [Tryz.f37, s37_6, dSl, plS]
  refine ⟨fun h e => h (by have := congrArg List.length e; simp at this; omega), fun hl => ?_⟩
  have hl' : a.xs.length = b.xs.length := by omega
  refine loop_rule (X := Nat) (fun i => i ≤ a.xs.length ∧ (a.xs.map plDelta).take i = (b.xs.map plDelta).take i) (fun i => [(0, .d (.sl a.id a.T (a.xs.map cDelta))), (1, .d (.sl b.id b.T (b.xs.map cDelta))), (5, .d (.int .i64 i))]) (fun _ => []) (fun i => a.xs.length - i) 0 (by simp) (by simp) (by simp) ?_
  intro i hs t m hi hh
  by_cases hlt : i < a.xs.length
  · have hwi := wr1 (i := i) (by omega)
    have hlb : i < b.xs.length := by omega
    have hst := eqm_step plDelta hlt hlb hi.2
    simp [cDelta, cI, cReln, cS, cStr, hlt, hlb, s37_6, ]
    refine call_pure (w_laws_eqDelta a.xs[i] b.xs[i] (ha.2 _ (List.getElem_mem _))) rfl (by simp) rfl fun hs' hh' => ?_
    simp at hh'
    simp [hwi]
    refine ⟨fun hne he => hne (hst.2 (by rw [he])), fun heq => ?_⟩
    exact back (i + 1) ⟨by omega, hst.1 heq⟩ (by omega) rfl (by simp; omega) (by simp) (by simp)
  · have := eq_all (a := a.xs.map plDelta) (b := b.xs.map plDelta) (by simpa using Nat.le_of_not_lt hlt) (by simpa using hl') hi.2
    have hlb : ¬ i < b.xs.length := by omega
    simp [hlt, hlb, this]
theorem w_laws_szCountedRelation (a : Cnt) (left : Int) (h0 : 0 ≤ left) (h1 : left ≤ 1048576) (ha : okCnt a) :
   VC Tryz.prog 72 [.agg ((cCnt a).map V.d), .d (.int .i64 left)] (fun _ r => r = .d (.int .i64 (szv left (swCnt a)))) := by
  refine VC.of E s72 (by kernel_rfl) Tryz.func72 (by rfl) (by kernel_rfl) (by simp [Tryz.f72]) (by simp [Tryz.f72]) s72_ok fun B => ?_
  have hwt : swCnt a = swS (swS swI) a.rows + swS swI a.cs := rfl
  have hc0 : (0 : Int) ≤ left := h0
  simp [Tryz.f72, cCnt, cI, cS, dSl]
  refine call_pure (w_laws_szIntSS a.rows _ (by omega) (by omega) ha.2.1) rfl (by simp) rfl fun hs' hh' => ?_
  by_cases hb0 : (swS (swS swI) a.rows : Int) ≤ left
  · rw [szv_pos hb0]
    have hn0 : ¬ left - swS (swS swI) a.rows < 0 := by omega
    simp [hn0]
    refine call_pure (w_laws_szIntS a.cs _ (by omega) (by omega) ha.2.2) rfl (by simp) rfl fun hs' hh' => ?_
    by_cases hb1 : (swS swI a.cs : Int) ≤ left - swS (swS swI) a.rows
    · rw [szv_pos hb1]
      have hn1 : ¬ left - swS (swS swI) a.rows - swS swI a.cs < 0 := by omega
      simp [hn1]
      rw [szv_pos (by omega)]; omega
    · rw [szv_neg (by omega)]
      simp
      try rw [szv_neg (by omega)]
      all_goals exact fun h => absurd h (by decide)
  · rw [szv_neg (by omega)]
    simp
    try rw [szv_neg (by omega)]
    all_goals exact fun h => absurd h (by decide)
theorem w_laws_eqCountedRelation (a b : Cnt) (ha : okCnt a) :
   VC Tryz.prog 24 [.agg ((cCnt a).map V.d), .agg ((cCnt b).map V.d)] (fun _ r => r = .d (.bool (plCnt a == plCnt b))) := by
  refine VC.of E s24 (by kernel_rfl) Tryz.func24 (by rfl) (by kernel_rfl) (by simp [Tryz.f24]) (by simp [Tryz.f24]) s24_ok fun B => ?_
  simp [Tryz.f24, cCnt, cI, cS, dSl, plCnt, plI, plStr]
  by_cases e0 : a.ar = b.ar
  case neg => simp [e0]
  simp [e0]
  refine call_pure (w_laws_eqIntSS a.rows b.rows ha.2.1) rfl (by simp) rfl fun hs1 hh1 => ?_
  by_cases e1 : plS (plS plI) a.rows = plS (plS plI) b.rows
  case neg => simp [e1]
  simp [e1]
  refine call_pure (w_laws_eqIntS a.cs b.cs ha.2.2) rfl (by simp) rfl fun hs2 hh2 => ?_
  by_cases e2 : plS plI a.cs = plS plI b.cs
  case neg => simp [e2]
  simp [e2]
theorem w_laws_szAtom (a : Atom) (left : Int) (h0 : 0 ≤ left) (h1 : left ≤ 1048576) (ha : okAtom a) :
   VC Tryz.prog 82 [.agg ((cAtom a).map V.d), .d (.int .i64 left)] (fun _ r => r = .d (.int .i64 (szv left (swAtom a)))) := by
  refine VC.of E s82 (by kernel_rfl) Tryz.func82 (by rfl) (by kernel_rfl) (by simp [Tryz.f82]) (by simp [Tryz.f82]) s82_ok fun B => ?_
  have hwt : swAtom a = swStr a.rel + swS swI a.vars := rfl
  have hc0 : (0 : Int) ≤ left := h0
  have hs0 : a.rel.length ≤ 9223372036854775807 := ha.1
  have hw0 : IntKind.i64.wrap (left - (a.rel.length : Int)) = left - a.rel.length := wrap64_of (by omega) (by omega)
  have hq0 : swStr a.rel = a.rel.length := rfl
  simp [Tryz.f82, cAtom, cS, cStr, dSl, hw0]
  refine ⟨fun hneg => ?_, fun hpos => ?_⟩
  · rw [szv_neg (by omega)]
  · skip
    refine call_pure (w_laws_szIntS a.vars _ (by omega) (by omega) ha.2) rfl (by simp) rfl fun hs' hh' => ?_
    by_cases hb1 : (swS swI a.vars : Int) ≤ left - a.rel.length
    · rw [szv_pos hb1]
      have hn1 : ¬ left - a.rel.length - swS swI a.vars < 0 := by omega
      simp [hn1]
      rw [szv_pos (by omega)]; omega
    · rw [szv_neg (by omega)]
      simp
      try rw [szv_neg (by omega)]
      all_goals exact fun h => absurd h (by decide)
theorem w_laws_eqAtom (a b : Atom) (ha : okAtom a) :
   VC Tryz.prog 103 [.agg ((cAtom a).map V.d), .agg ((cAtom b).map V.d)] (fun _ r => r = .d (.bool (plAtom a == plAtom b))) := by
  refine VC.of E s103 (by kernel_rfl) Tryz.func103 (by rfl) (by kernel_rfl) (by simp [Tryz.f103]) (by simp [Tryz.f103]) s103_ok fun B => ?_
  simp [Tryz.f103, cAtom, cS, cStr, dSl, plAtom, plI, plStr]
  by_cases e0 : a.rel = b.rel
  case neg => simp [e0]
  simp [e0]
  refine call_pure (w_laws_eqIntS a.vars b.vars ha.2) rfl (by simp) rfl fun hs1 hh1 => ?_
  by_cases e1 : plS plI a.vars = plS plI b.vars
  case neg => simp [e1]
  simp [e1]
theorem w_laws_szAtomS (a : Sl (Atom)) (left : Int) (h0 : 0 ≤ left) (h1 : left ≤ 1048576) (ha : okS okAtom a) :
   VC Tryz.prog 40 [.d (dSl cAtom a), .d (.int .i64 left)] (fun _ r => r = .d (.int .i64 (szv left (swS swAtom a)))) := by
  refine VC.of E s40 (by kernel_rfl) Tryz.func40 (by rfl) (by kernel_rfl) (by simp [Tryz.f40]) (by simp [Tryz.f40]) s40_ok fun B => ?_
  have ha1 := ha.1
  simp only [maxLen] at ha1
  have hw1 : IntKind.i64.wrap (left - (a.xs.length : Int)) = left - a.xs.length := wrap64_of (by omega) (by omega)
  have hwt : swS swAtom a = a.xs.length + sumW swAtom a.xs := rfl
  simp [Tryz.f40, dSl, hw1]
  refine ⟨fun h => ?_, fun h => ?_⟩
  · rw [szv_neg (by omega)]
  · refine loop_rule (X := Nat) (fun i => i ≤ a.xs.length ∧ 0 ≤ left - a.xs.length - sumW swAtom (a.xs.take i)) (fun i => [(0, .d (.sl a.id a.T (a.xs.map cAtom))), (1, .d (.int .i64 (left - a.xs.length - sumW swAtom (a.xs.take i)))), (5, .d (.int .i64 i))]) (fun _ => []) (fun i => a.xs.length - i) 0 ?_ ?_ (by simp) ?_
    · simp; omega
    · simp
    · intro i hs t m hi hh
      by_cases hlt : i < a.xs.length
      · simp [cAtom, cS, cStr, hlt]
        refine call_pure (w_laws_szAtom a.xs[i] _ (by omega) (by omega) (ha.2 _ (List.getElem_mem _))) rfl (by simp) rfl fun hs' hh' => ?_
        have e1 := sumW_succ swAtom hlt
        have e2 := sumW_le swAtom a.xs (i + 1)
        have hwi := wr1 (i := i) (by omega)
        by_cases hc : (swAtom a.xs[i] : Int) ≤ left - a.xs.length - sumW swAtom (a.xs.take i)
        · rw [szv_pos hc]
          have hn : ¬ left - a.xs.length - sumW swAtom (a.xs.take i) - swAtom a.xs[i] < 0 := by omega
          simp [hwi, hn]
          refine back (i + 1) ⟨by omega, by omega⟩ (by omega) rfl (by simp at hh' ⊢; omega) ?_ (by simp)
          simp
          omega
        · rw [szv_neg (by omega)]
          simp
          rw [szv_neg (by omega)]
          all_goals exact fun h => absurd h (by decide)
      · have : i = a.xs.length := by omega
        subst this
        simp
        rw [szv_pos] <;> (simp at hi ⊢; omega)
theorem w_laws_eqAtomS (a b : Sl (Atom)) (ha : okS okAtom a) :
   VC Tryz.prog 52 [.d (dSl cAtom a), .d (dSl cAtom b)] (fun _ r => r = .d (.bool (plS plAtom a == plS plAtom b))) := by
  refine VC.of E s52 (by kernel_rfl) Tryz.func52 (by rfl) (by kernel_rfl) (by simp [Tryz.f52]) (by simp [Tryz.f52]) s52_ok fun B => ?_
  have ha1 := ha.1
  simp only [maxLen] at ha1
  simp [Tryz.f52, s52_6, dSl, plS]
  refine ⟨fun h e => h (by have := congrArg List.length e; simp at this; omega), fun hl => ?_⟩
  have hl' : a.xs.length = b.xs.length := by omega
  refine loop_rule (X := Nat) (fun i => i ≤ a.xs.length ∧ (a.xs.map plAtom).take i = (b.xs.map plAtom).take i) (fun i => [(0, .d (.sl a.id a.T (a.xs.map cAtom))), (1, .d (.sl b.id b.T (b.xs.map cAtom))), (5, .d (.int .i64 i))]) (fun _ => []) (fun i => a.xs.length - i) 0 (by simp) (by simp) (by simp) ?_
  intro i hs t m hi hh
  by_cases hlt : i < a.xs.length
  · have hwi := wr1 (i := i) (by omega)
    have hlb : i < b.xs.length := by omega
    have hst := eqm_step plAtom hlt hlb hi.2
    simp [cAtom, cS, cStr, hlt, hlb, s52_6, ]
    refine call_pure (w_laws_eqAtom a.xs[i] b.xs[i] (ha.2 _ (List.getElem_mem _))) rfl (by simp) rfl fun hs' hh' => ?_
    simp at hh'
    simp [hwi]
    refine ⟨fun hne he => hne (hst.2 (by rw [he])), fun heq => ?_⟩
    exact back (i + 1) ⟨by omega, hst.1 heq⟩ (by omega) rfl (by simp; omega) (by simp) (by simp)
  · have := eq_all (a := a.xs.map plAtom) (b := b.xs.map plAtom) (by simpa using Nat.le_of_not_lt hlt) (by simpa using hl') hi.2
    have hlb : ¬ i < b.xs.length := by omega
    simp [hlt, hlb, this]
theorem w_laws_szQuery (a : Query) (left : Int) (h0 : 0 ≤ left) (h1 : left ≤ 1048576) (ha : okQuery a) :
   VC Tryz.prog 8 [.agg ((cQuery a).map V.d), .d (.int .i64 left)] (fun _ r => r = .d (.int .i64 (szv left (swQuery a)))) := by
  refine VC.of E s8 (by kernel_rfl) Tryz.func8 (by rfl) (by kernel_rfl) (by simp [Tryz.f8]) (by simp [Tryz.f8]) s8_ok fun B => ?_
  have hwt : swQuery a = swS swAtom a.atoms + swS swI a.out := rfl
  have hc0 : (0 : Int) ≤ left := h0
  simp [Tryz.f8, cI, cQuery, cS, dSl]
  refine call_pure (w_laws_szAtomS a.atoms _ (by omega) (by omega) ha.2.1) rfl (by simp) rfl fun hs' hh' => ?_
  by_cases hb0 : (swS swAtom a.atoms : Int) ≤ left
  · rw [szv_pos hb0]
    have hn0 : ¬ left - swS swAtom a.atoms < 0 := by omega
    simp [hn0]
    refine call_pure (w_laws_szIntS a.out _ (by omega) (by omega) ha.2.2) rfl (by simp) rfl fun hs' hh' => ?_
    by_cases hb1 : (swS swI a.out : Int) ≤ left - swS swAtom a.atoms
    · rw [szv_pos hb1]
      have hn1 : ¬ left - swS swAtom a.atoms - swS swI a.out < 0 := by omega
      simp [hn1]
      rw [szv_pos (by omega)]; omega
    · rw [szv_neg (by omega)]
      simp
      try rw [szv_neg (by omega)]
      all_goals exact fun h => absurd h (by decide)
  · rw [szv_neg (by omega)]
    simp
    try rw [szv_neg (by omega)]
    all_goals exact fun h => absurd h (by decide)
theorem w_laws_eqQuery (a b : Query) (ha : okQuery a) :
   VC Tryz.prog 15 [.agg ((cQuery a).map V.d), .agg ((cQuery b).map V.d)] (fun _ r => r = .d (.bool (plQuery a == plQuery b))) := by
  refine VC.of E s15 (by kernel_rfl) Tryz.func15 (by rfl) (by kernel_rfl) (by simp [Tryz.f15]) (by simp [Tryz.f15]) s15_ok fun B => ?_
  simp [Tryz.f15, cI, cQuery, cS, dSl, plQuery, plI, plStr]
  by_cases e0 : a.n = b.n
  case neg => simp [e0]
  simp [e0]
  refine call_pure (w_laws_eqAtomS a.atoms b.atoms ha.2.1) rfl (by simp) rfl fun hs1 hh1 => ?_
  by_cases e1 : plS plAtom a.atoms = plS plAtom b.atoms
  case neg => simp [e1]
  simp [e1]
  refine call_pure (w_laws_eqIntS a.out b.out ha.2.2) rfl (by simp) rfl fun hs2 hh2 => ?_
  by_cases e2 : plS plI a.out = plS plI b.out
  case neg => simp [e2]
  simp [e2]
theorem w_laws_szView (a : View) (left : Int) (h0 : 0 ≤ left) (h1 : left ≤ 1048576) (ha : okView a) :
   VC Tryz.prog 29 [.agg ((cView a).map V.d), .d (.int .i64 left)] (fun _ r => r = .d (.int .i64 (szv left (swView a)))) := by
  refine VC.of E s29 (by kernel_rfl) Tryz.func29 (by rfl) (by kernel_rfl) (by simp [Tryz.f29]) (by simp [Tryz.f29]) s29_ok fun B => ?_
  have hwt : swView a = swQuery a.q + swCnt a.r := rfl
  have hc0 : (0 : Int) ≤ left := h0
  simp [Tryz.f29, cCnt, cI, cQuery, cS, cView, dSl]
  refine call_pure (w_laws_szQuery a.q _ (by omega) (by omega) ha.1) rfl (by simp) rfl fun hs' hh' => ?_
  by_cases hb0 : (swQuery a.q : Int) ≤ left
  · rw [szv_pos hb0]
    have hn0 : ¬ left - swQuery a.q < 0 := by omega
    simp [hn0]
    refine call_pure (w_laws_szCountedRelation a.r _ (by omega) (by omega) ha.2) rfl (by simp) rfl fun hs' hh' => ?_
    by_cases hb1 : (swCnt a.r : Int) ≤ left - swQuery a.q
    · rw [szv_pos hb1]
      have hn1 : ¬ left - swQuery a.q - swCnt a.r < 0 := by omega
      simp [hn1]
      rw [szv_pos (by omega)]; omega
    · rw [szv_neg (by omega)]
      simp
      try rw [szv_neg (by omega)]
      all_goals exact fun h => absurd h (by decide)
  · rw [szv_neg (by omega)]
    simp
    try rw [szv_neg (by omega)]
    all_goals exact fun h => absurd h (by decide)
theorem w_laws_eqView (a b : View) (ha : okView a) :
   VC Tryz.prog 13 [.agg ((cView a).map V.d), .agg ((cView b).map V.d)] (fun _ r => r = .d (.bool (plView a == plView b))) := by
  refine VC.of E s13 (by kernel_rfl) Tryz.func13 (by rfl) (by kernel_rfl) (by simp [Tryz.f13]) (by simp [Tryz.f13]) s13_ok fun B => ?_
  simp [Tryz.f13, cCnt, cI, cQuery, cS, cView, dSl, plView, plI, plStr]
  refine call_pure (w_laws_eqQuery a.q b.q ha.1) rfl (by simp) rfl fun hs0 hh0 => ?_
  by_cases e0 : plQuery a.q = plQuery b.q
  case neg => simp [e0]
  simp [e0]
  refine call_pure (w_laws_eqCountedRelation a.r b.r ha.2) rfl (by simp) rfl fun hs1 hh1 => ?_
  by_cases e1 : plCnt a.r = plCnt b.r
  case neg => simp [e1]
  simp [e1]

end Go.Proofs.YtggbpdjjlgejmaaGreat


namespace Go.Proofs.YtggbpdjjlgejmaaGreat
open Go.Vs Go.Proofs Go
set_option maxRecDepth 100000
set_option maxHeartbeats 1000000

theorem w_laws_toIntS (a : Sl (Int)) (ha : okS okI a) (hb : a.xs.length ≤ 1048576) :
   VC Tryz.prog 46 [.d (dSl cI a)] (fun n r => ∃ y : Sl (Int), r = .d (dSl cI y) ∧ plS plI y = plS plI a ∧ okS okI y ∧ Good (cS cI y) (whS whI y) n) := by
  refine VC.of E s46 (by kernel_rfl) Tryz.func46 (by rfl) (by kernel_rfl) (by simp [Tryz.f46]) (by simp [Tryz.f46]) s46_ok fun B => ?_
  simp [Tryz.f46, dSl]
  refine ⟨⟨by omega, by simp only [maxLen]; omega⟩, ?_⟩
  refine loop_rule (X := Nat) (fun i => i ≤ a.xs.length) (fun i => [(0, .d (.sl a.id a.T (a.xs.map cI))), (3, .own 7 0 a.xs.length), (4, .d (.int .i64 i))]) (fun i => [(7, some (.row 3 1 (fill [.int .i64 0] (a.xs.map cI) i)))]) (fun i => a.xs.length - i) 0 (by simp) (by simp) (by simp) ?_
  intro i hs t m hi hh
  by_cases hlt : i < a.xs.length
  · have hwi := wr1 (i := i) (by omega)
    simp [cI, hlt, hwi]
    refine back (i + 1) (by omega) (by omega) rfl (by simp) (by simp) ?_
    have := fill_set (z := [.int .i64 0]) (l := a.xs.map cI) (i := i) (by simpa using hlt) (by simp [hlt]; rfl)
    simp only [cI] at this ⊢
    simp [this]
  · have hn : i = a.xs.length := by omega
    subst hn
    have hf : fill [.int .i64 0] (a.xs.map cI) a.xs.length = a.xs.map cI := fill_all (by simp)
    simp [hf]
    intro γ hs' h1 hg
    obtain ⟨q1, q2⟩ := gam_at hg (k := 7) (T := 3) (sz := 1) (es := a.xs.map cI) (by simp)
    have q3 := gam_row hg (k := 7) (T := 3) (sz := 1) (es := a.xs.map cI) (by simp)
    clear hg
    refine ⟨⟨γ 7, some (3, 1), a.xs⟩, ⟨⟨rfl, rfl, List.take_of_length_le (by simp)⟩, rfl, ha, good_row (fun g hg => (q1 g hg).1) (by simpa using q2) q3 ⟨by simp, by simp⟩ (by simp [whI, whStr])⟩⟩
theorem w_laws_heldIntS (a : Sl (Int)) (k : Int) (h0 : 1 ≤ k) (h1 : k + wtS wtI a ≤ 4611686018427387904) (ha : okS okI a) :
   VC Tryz.prog 71 [.d (dSl cI a), .d (.int .i64 k)] (fun _ r => r = .d (.int .i64 (hv (hlS (hlI) (wtI) a k) k (wtS wtI a)))) := by
  refine VC.of E s71 (by kernel_rfl) Tryz.func71 (by rfl) (by kernel_rfl) (by simp [Tryz.f71]) (by simp [Tryz.f71]) s71_ok fun B => ?_
  obtain ⟨id, T, xs⟩ := a
  have ha1 := ha.1
  simp only [maxLen] at ha1
  have hwt : wtS wtI (⟨id, T, xs⟩ : Sl (Int)) = sumW wtI xs := rfl
  have hhl : hlS (hlI) (wtI) (⟨id, T, xs⟩ : Sl (Int)) k = hlList hlI wtI xs k := rfl
  rw [hwt] at h1
  rw [hwt, hhl]
  simp [Tryz.f71, dSl]
  refine loop_rule (X := Nat) (fun i => i ≤ xs.length ∧ hlList hlI wtI (xs.take i) k = true) (fun i => [(0, .d (.sl id T (xs.map cI))), (1, .d (.int .i64 (k + sumW wtI (xs.take i)))), (5, .d (.int .i64 i))]) (fun _ => []) (fun i => xs.length - i) 0 (by simp [hlList]) (by simp) (by simp) ?_
  intro i hs t m hi hh
  by_cases hlt : i < xs.length
  · have hwi := wr1 (i := i) (by omega)
    have e1 := sumW_succ wtI hlt
    have e2 := sumW_le wtI xs (i + 1)
    have hmem : xs[i] ∈ xs := List.getElem_mem _
    have hstep := hlList_step (hl := hlI) (wt := wtI) (k := k) hlt
    rw [hi.2, Bool.true_and] at hstep
    have hbad := hlList_bad (hl := hlI) (wt := wtI) (k := k) hlt
    have hex : hlI xs[i] (k + sumW wtI (xs.take i)) = (xs[i] == k + sumW wtI (xs.take i)) := rfl
    have hwx : wtI xs[i] = 1 := by first | rfl | (simp only [wtTab, wtDelta, wtReln, wtStr, wtI]; omega)
    have hk0 : IntKind.i64.wrap (k + sumW wtI (xs.take i) + 1) = k + sumW wtI (xs.take i) + 1 := wrap64_of (by omega) (by omega)
    simp [cI, hlt, dSl, ]
    by_cases c0 : xs[i] = k + sumW wtI (xs.take i)
    case neg => simp [c0, hbad (by simp [hex, c0])]
    simp [c0, hk0, ]
    simp [hwi]
    refine back (i + 1) ⟨by omega, hstep.trans (hex.trans (by simp [c0]))⟩ (by omega) rfl (by simp <;> omega) ?_ (by simp)
    simp
    omega
  · have hn : i = xs.length := by omega
    subst hn
    have h2 := hi.2
    rw [List.take_length] at h2
    simp [h2]
theorem w_laws_toIntSS (a : Sl (Sl (Int))) (ha : okS (okS okI) a) (hb : swS (swS swI) a ≤ 1048576) :
   VC Tryz.prog 114 [.d (dSl (cS cI) a)] (fun n r => ∃ y : Sl (Sl (Int)), r = .d (dSl (cS cI) y) ∧ plS (plS plI) y = plS (plS plI) a ∧ okS (okS okI) y ∧ Good (cS (cS cI) y) (whS (whS whI) y) n) := by
  refine VC.of E s114 (by kernel_rfl) Tryz.func114 (by rfl) (by kernel_rfl) (by simp [Tryz.f114]) (by simp [Tryz.f114]) s114_ok fun B => ?_
  have hwt : swS (swS swI) a = a.xs.length + sumW (swS swI) a.xs := rfl
  simp [Tryz.f114, dSl]
  refine ⟨⟨by omega, by simp only [maxLen]; omega⟩, ?_⟩
  refine loop_rule2 (X := Nat × List (Sl (Int))) (fun p h => p.1 ≤ a.xs.length ∧ p.2.length = p.1 ∧ p.2.map (plS plI) = (a.xs.map (plS plI)).take p.1 ∧ (∀ y ∈ p.2, okS okI y) ∧ GoodL (cS cI) (whS whI) B h p.2) (fun p => [(0, .d (.sl a.id a.T (a.xs.map (cS cI)))), (3, .own 7 0 a.xs.length), (4, .d (.int .i64 p.1))]) (fun p => [(7, some (.row 26 1 (p.2.map (cS cI) ++ List.replicate (a.xs.length - p.1) [.sl none none []])))]) (fun p => a.xs.length - p.1) (0, []) ⟨by simp, rfl, by simp, by simp, GoodL.nil⟩ (by simp) (by simp) ?_
  rintro ⟨i, ys⟩ hs t m ⟨hi, hyl, hpl, hok, hgd⟩ hh
  simp only at hi hyl hpl hok hgd
  by_cases hlt : i < a.xs.length
  · have hwi := wr1 (i := i) (by omega)
    have hmem : a.xs[i] ∈ a.xs := List.getElem_mem _
    have hsw := sumW_mem (swS swI) hmem
    simp [cS, hlt]
    refine call_some (w_laws_toIntS a.xs[i] (ha.2 _ hmem) (by simp only [swS] at hsw; omega)) rfl (by simp) fun n hs' r hn hn' hp hr => ?_
    obtain ⟨y, rfl, hy1, hy2, hy3⟩ := hp
    simp at hn
    have hr' : ∀ g ∈ idsL (cS cI y), g < hs' := fun g hg => hr g (by first | (simp [cS, V.ids, idsVL, idsL] at hg; done) | simpa [cS, V.ids, idsVL, idsL] using hg)
    have hyi : ys.length = i := hyl
    simp [cS, hlt, hwi, hyi, show i + (a.xs.length - i) = a.xs.length by omega, dSl]
    refine back2 (i + 1, ys ++ [y]) ⟨by omega, by simp [hyi], ?_, ?_, ?_⟩ (by simp <;> omega) rfl (by simp <;> omega) (by simp) ?_
    · simp only [List.map_append, hpl, List.map_cons, List.map_nil, hy1]
      rw [List.take_succ_eq_append_getElem (by simpa using hlt)]; simp
    · intro y' hy'
      rcases List.mem_append.1 hy' with h | h
      · exact hok y' h
      · rw [List.mem_singleton.1 h]; exact hy2
    · exact GoodL.snoc hgd (by omega) hn' hy3 hr'
    · simp [rep_set0 hlt, cS, dSl]
  · have hn : i = a.xs.length := by omega
    subst hn
    simp
    intro γ hs' h1 hg
    obtain ⟨q1, q2⟩ := gam_at hg (k := 7) (T := 26) (sz := 1) (es := ys.map (cS cI)) (by simp [upd])
    have q3 := gam_row hg (k := 7) (T := 26) (sz := 1) (es := ys.map (cS cI)) (by simp [upd])
    clear hg
    refine ⟨_, ⟨by omega, rfl⟩, ⟨γ 7, some (26, 1), ys⟩, ?_, by rw [List.take_of_length_le (by simp)] at hpl; exact hpl, ⟨by simp only [maxLen]; show ys.length ≤ _; omega, hok⟩, good_row (fun g hg => (q1 g hg).1) (by simpa using q2) q3 ⟨hgd.nd, hgd.lo⟩ hgd.wh⟩
    rw [if_pos hyl.symm, List.take_of_length_le (by simp [hyl])]
theorem w_laws_heldIntSS (a : Sl (Sl (Int))) (k : Int) (h0 : 1 ≤ k) (h1 : k + wtS (wtS wtI) a ≤ 4611686018427387904) (ha : okS (okS okI) a) :
   VC Tryz.prog 70 [.d (dSl (cS cI) a), .d (.int .i64 k)] (fun _ r => r = .d (.int .i64 (hv (hlS (hlS (hlI) (wtI)) (wtS wtI) a k) k (wtS (wtS wtI) a)))) := by
  refine VC.of E s70 (by kernel_rfl) Tryz.func70 (by rfl) (by kernel_rfl) (by simp [Tryz.f70]) (by simp [Tryz.f70]) s70_ok fun B => ?_
  obtain ⟨id, T, xs⟩ := a
  have ha1 := ha.1
  simp only [maxLen] at ha1
  have hwt : wtS (wtS wtI) (⟨id, T, xs⟩ : Sl (Sl (Int))) = sumW (wtS wtI) xs := rfl
  have hhl : hlS (hlS (hlI) (wtI)) (wtS wtI) (⟨id, T, xs⟩ : Sl (Sl (Int))) k = hlList (hlS (hlI) (wtI)) (wtS wtI) xs k := rfl
  rw [hwt] at h1
  rw [hwt, hhl]
  simp [Tryz.f70, dSl]
  refine loop_rule (X := Nat) (fun i => i ≤ xs.length ∧ hlList (hlS (hlI) (wtI)) (wtS wtI) (xs.take i) k = true) (fun i => [(0, .d (.sl id T (xs.map (cS cI)))), (1, .d (.int .i64 (k + sumW (wtS wtI) (xs.take i)))), (5, .d (.int .i64 i))]) (fun _ => []) (fun i => xs.length - i) 0 (by simp [hlList]) (by simp) (by simp) ?_
  intro i hs t m hi hh
  by_cases hlt : i < xs.length
  · have hwi := wr1 (i := i) (by omega)
    have e1 := sumW_succ (wtS wtI) hlt
    have e2 := sumW_le (wtS wtI) xs (i + 1)
    have hmem : xs[i] ∈ xs := List.getElem_mem _
    have hstep := hlList_step (hl := (hlS (hlI) (wtI))) (wt := (wtS wtI)) (k := k) hlt
    rw [hi.2, Bool.true_and] at hstep
    have hbad := hlList_bad (hl := (hlS (hlI) (wtI))) (wt := (wtS wtI)) (k := k) hlt
    have hex : hlS (hlI) (wtI) xs[i] (k + sumW (wtS wtI) (xs.take i)) = (hlS (hlI) (wtI) xs[i] (k + sumW (wtS wtI) (xs.take i))) := rfl
    have hwx : wtS wtI xs[i] = wtS wtI xs[i] := by first | rfl | (simp only [wtTab, wtDelta, wtReln, wtStr, wtI]; omega)
    simp [cS, hlt, dSl, ]
    refine call_pure (w_laws_heldIntS xs[i] _ (by omega) (by omega) ((ha.2 _ hmem))) rfl (by simp) rfl fun hs0 hh0 => ?_
    simp at hh0
    by_cases c0 : hlS (hlI) (wtI) xs[i] (k + sumW (wtS wtI) (xs.take i)) = true
    case neg =>
      have c0' : hlS (hlI) (wtI) xs[i] (k + sumW (wtS wtI) (xs.take i)) = false := by simpa using c0
      simp [c0', hbad (by simp [hex, c0'])]
    have hn0 : ¬ k + sumW (wtS wtI) (xs.take i) + (wtS wtI xs[i] : Int) < 0 := by omega
    simp [c0, hn0, hlt, cS, dSl, ]
    simp [hwi]
    refine back (i + 1) ⟨by omega, hstep.trans (hex.trans (by simp [c0]))⟩ (by omega) rfl (by simp <;> omega) ?_ (by simp)
    simp
    omega
  · have hn : i = xs.length := by omega
    subst hn
    have h2 := hi.2
    rw [List.take_length] at h2
    simp [h2]
theorem w_laws_toRelation (a : Reln) (ha : okReln a) (hb : swReln a ≤ 1048576) :
   VC Tryz.prog 62 [.agg ((cReln a).map V.d)] (fun n r => ∃ y : Reln, r = .agg ((cReln y).map V.d) ∧ plReln y = plReln a ∧ okReln y ∧ Good (cReln y) (whReln y) n) := by
  refine VC.of E s62 (by kernel_rfl) Tryz.func62 (by rfl) (by kernel_rfl) (by simp [Tryz.f62]) (by simp [Tryz.f62]) s62_ok fun B => ?_
  have hwt : swReln a = swS (swS swI) a.rows := rfl
  simp [Tryz.f62, cI, cReln, cS, dSl]
  refine call_some (w_laws_toIntSS a.rows ha.2 (by have := hwt; omega)) rfl (by simp) fun n0 hs0 r0 hn0 hm0 hp0 hr0 => ?_
  obtain ⟨y0, rfl, hy0, hk0, hg0⟩ := hp0
  have hl0 : ∀ g ∈ idsL (cS (cS cI) y0), g < hs0 := fun g hg => hr0 g (by first | (simp [cS, V.ids, idsVL, idsL] at hg; done) | simpa [cS, V.ids, idsVL, idsL] using hg)
  simp at hn0
  simp [cS, dSl]
  refine ⟨⟨a.ar, y0⟩, ?_⟩
  refine ⟨by simp [cI, cReln, cS, dSl], by simp only [plReln, hy0], ⟨ha.1, hk0⟩, ?_⟩
  have G0 : Good (cI a.ar) (whI a.ar) B := good_I B a.ar
  have G1 : Good (cS (cS cI) y0) (whS (whS whI) y0) B := hg0.le (by omega)
  have U0 : ∀ g ∈ idsL (cI a.ar), g < B := by simp [cI, idsL, D.ids]
  have K1 : Good (cI a.ar ++ cS (cS cI) y0) ((whI a.ar) ∧ whS (whS whI) y0) B := Good.app G0 G1 (fun g h h' => by have h1 := U0 g h; have h2 := hg0.lo g h'; omega)
  have U1 : ∀ g ∈ idsL (cI a.ar ++ cS (cS cI) y0), g < hs0 := fun g h => by rw [idsL_app] at h; rcases List.mem_append.1 h with h | h; (have h1 := U0 g h; omega); exact hl0 g h
  exact ⟨K1.nd, K1.lo, by have h := K1.wh; exact ⟨h.1, h.2⟩⟩
theorem w_laws_toTable (a : Tab) (ha : okTab a) (hb : swTab a ≤ 1048576) :
   VC Tryz.prog 87 [.agg ((cTab a).map V.d)] (fun n r => ∃ y : Tab, r = .agg ((cTab y).map V.d) ∧ plTab y = plTab a ∧ okTab y ∧ Good (cTab y) (whTab y) n) := by
  refine VC.of E s87 (by kernel_rfl) Tryz.func87 (by rfl) (by kernel_rfl) (by simp [Tryz.f87]) (by simp [Tryz.f87]) s87_ok fun B => ?_
  have hwt : swTab a = swStr a.name + swReln a.rel := rfl
  simp [Tryz.f87, cI, cReln, cS, cStr, cTab, dSl]
  refine call_some (w_laws_toRelation a.rel ha.2 (by have := hwt; omega)) rfl (by simp) fun n0 hs0 r0 hn0 hm0 hp0 hr0 => ?_
  obtain ⟨y0, rfl, hy0, hk0, hg0⟩ := hp0
  have hl0 : ∀ g ∈ idsL (cReln y0), g < hs0 := fun g hg => hr0 g (by first | (simp [cI, cReln, cS, V.ids, idsVL, idsL] at hg; done) | simpa [cI, cReln, cS, V.ids, idsVL, idsL] using hg)
  simp at hn0
  simp [cI, cReln, cS, dSl]
  refine ⟨⟨a.name, y0⟩, ?_⟩
  refine ⟨by simp [cI, cReln, cS, cStr, cTab, dSl], by simp only [plTab, hy0], ⟨ha.1, hk0⟩, ?_⟩
  have G0 : Good (cStr a.name) (whStr a.name) B := good_Str B a.name
  have G1 : Good (cReln y0) (whReln y0) B := hg0.le (by omega)
  have U0 : ∀ g ∈ idsL (cStr a.name), g < B := by simp [cStr, idsL, D.ids]
  have K1 : Good (cStr a.name ++ cReln y0) ((whStr a.name) ∧ whReln y0) B := Good.app G0 G1 (fun g h h' => by have h1 := U0 g h; have h2 := hg0.lo g h'; omega)
  have U1 : ∀ g ∈ idsL (cStr a.name ++ cReln y0), g < hs0 := fun g h => by rw [idsL_app] at h; rcases List.mem_append.1 h with h | h; (have h1 := U0 g h; omega); exact hl0 g h
  exact ⟨K1.nd, K1.lo, by have h := K1.wh; exact ⟨h.1, h.2⟩⟩
theorem w_laws_toTableS (a : Sl (Tab)) (ha : okS okTab a) (hb : swS swTab a ≤ 1048576) :
   VC Tryz.prog 44 [.d (dSl cTab a)] (fun n r => ∃ y : Sl (Tab), r = .d (dSl cTab y) ∧ plS plTab y = plS plTab a ∧ okS okTab y ∧ Good (cS cTab y) (whS whTab y) n) := by
  refine VC.of E s44 (by kernel_rfl) Tryz.func44 (by rfl) (by kernel_rfl) (by simp [Tryz.f44]) (by simp [Tryz.f44]) s44_ok fun B => ?_
  have hwt : swS swTab a = a.xs.length + sumW swTab a.xs := rfl
  simp [Tryz.f44, dSl]
  refine ⟨⟨by omega, by simp only [maxLen]; omega⟩, ?_⟩
  refine loop_rule2 (X := Nat × List (Tab)) (fun p h => p.1 ≤ a.xs.length ∧ p.2.length = p.1 ∧ p.2.map plTab = (a.xs.map plTab).take p.1 ∧ (∀ y ∈ p.2, okTab y) ∧ GoodL cTab whTab B h p.2) (fun p => [(0, .d (.sl a.id a.T (a.xs.map cTab))), (3, .own 7 0 a.xs.length), (4, .d (.int .i64 p.1))]) (fun p => [(7, some (.row 127 3 (p.2.map cTab ++ List.replicate (a.xs.length - p.1) [.str [], .int .i64 0, .sl none none []])))]) (fun p => a.xs.length - p.1) (0, []) ⟨by simp, rfl, by simp, by simp, GoodL.nil⟩ (by simp) (by simp) ?_
  rintro ⟨i, ys⟩ hs t m ⟨hi, hyl, hpl, hok, hgd⟩ hh
  simp only at hi hyl hpl hok hgd
  by_cases hlt : i < a.xs.length
  · have hwi := wr1 (i := i) (by omega)
    have hmem : a.xs[i] ∈ a.xs := List.getElem_mem _
    have hsw := sumW_mem swTab hmem
    simp [cI, cReln, cS, cStr, cTab, hlt]
    refine call_some (w_laws_toTable a.xs[i] (ha.2 _ hmem) (by omega)) rfl (by simp) fun n hs' r hn hn' hp hr => ?_
    obtain ⟨y, rfl, hy1, hy2, hy3⟩ := hp
    simp at hn
    have hr' : ∀ g ∈ idsL (cTab y), g < hs' := fun g hg => hr g (by first | (simp [cI, cReln, cS, cStr, cTab, V.ids, idsVL, idsL] at hg; done) | simpa [cI, cReln, cS, cStr, cTab, V.ids, idsVL, idsL] using hg)
    have hyi : ys.length = i := hyl
    simp [cI, cReln, cS, cStr, cTab, hlt, hwi, hyi, show i + (a.xs.length - i) = a.xs.length by omega, dSl]
    refine back2 (i + 1, ys ++ [y]) ⟨by omega, by simp [hyi], ?_, ?_, ?_⟩ (by simp <;> omega) rfl (by simp <;> omega) (by simp) ?_
    · simp only [List.map_append, hpl, List.map_cons, List.map_nil, hy1]
      rw [List.take_succ_eq_append_getElem (by simpa using hlt)]; simp
    · intro y' hy'
      rcases List.mem_append.1 hy' with h | h
      · exact hok y' h
      · rw [List.mem_singleton.1 h]; exact hy2
    · exact GoodL.snoc hgd (by omega) hn' hy3 hr'
    · simp [rep_set0 hlt, cI, cReln, cS, cStr, cTab, dSl]
  · have hn : i = a.xs.length := by omega
    subst hn
    simp
    intro γ hs' h1 hg
    obtain ⟨q1, q2⟩ := gam_at hg (k := 7) (T := 127) (sz := 3) (es := ys.map cTab) (by simp [upd])
    have q3 := gam_row hg (k := 7) (T := 127) (sz := 3) (es := ys.map cTab) (by simp [upd])
    clear hg
    refine ⟨_, ⟨by omega, rfl⟩, ⟨γ 7, some (127, 3), ys⟩, ?_, by rw [List.take_of_length_le (by simp)] at hpl; exact hpl, ⟨by simp only [maxLen]; show ys.length ≤ _; omega, hok⟩, good_row (fun g hg => (q1 g hg).1) (by simpa using q2) q3 ⟨hgd.nd, hgd.lo⟩ hgd.wh⟩
    rw [if_pos hyl.symm, List.take_of_length_le (by simp [hyl])]
theorem w_laws_toDatabase (a : Db) (ha : okDb a) (hb : swDb a ≤ 1048576) :
   VC Tryz.prog 10 [.agg ((cDb a).map V.d)] (fun n r => ∃ y : Db, r = .agg ((cDb y).map V.d) ∧ plDb y = plDb a ∧ okDb y ∧ Good (cDb y) (whDb y) n) := by
  refine VC.of E s10 (by kernel_rfl) Tryz.func10 (by rfl) (by kernel_rfl) (by simp [Tryz.f10]) (by simp [Tryz.f10]) s10_ok fun B => ?_
  have hwt : swDb a = swS swTab a.tabs := rfl
  simp [Tryz.f10, cDb, cS, dSl]
  refine call_some (w_laws_toTableS a.tabs ha (by have := hwt; omega)) rfl (by simp) fun n0 hs0 r0 hn0 hm0 hp0 hr0 => ?_
  obtain ⟨y0, rfl, hy0, hk0, hg0⟩ := hp0
  have hl0 : ∀ g ∈ idsL (cS cTab y0), g < hs0 := fun g hg => hr0 g (by first | (simp [cS, V.ids, idsVL, idsL] at hg; done) | simpa [cS, V.ids, idsVL, idsL] using hg)
  simp at hn0
  simp [cS, dSl]
  refine ⟨⟨y0⟩, ?_⟩
  refine ⟨by simp [cDb, cS, dSl], by simp only [plDb, hy0], hk0, ?_⟩
  have G0 : Good (cS cTab y0) (whS whTab y0) B := hg0.le (by omega)
  have U0 : ∀ g ∈ idsL (cS cTab y0), g < hs0 := hl0
  exact G0
theorem w_laws_toDelta (a : Delta) (ha : okDelta a) (hb : swDelta a ≤ 1048576) :
   VC Tryz.prog 22 [.agg ((cDelta a).map V.d)] (fun n r => ∃ y : Delta, r = .agg ((cDelta y).map V.d) ∧ plDelta y = plDelta a ∧ okDelta y ∧ Good (cDelta y) (whDelta y) n) := by
  refine VC.of E s22 (by kernel_rfl) Tryz.func22 (by rfl) (by kernel_rfl) (by simp [Tryz.f22]) (by simp [Tryz.f22]) s22_ok fun B => ?_
  have hwt : swDelta a = swStr a.name + swReln a.ins + swReln a.del := rfl
  simp [Tryz.f22, cDelta, cI, cReln, cS, cStr, dSl]
  refine call_some (w_laws_toRelation a.ins ha.2.1 (by have := hwt; omega)) rfl (by simp) fun n0 hs0 r0 hn0 hm0 hp0 hr0 => ?_
  obtain ⟨y0, rfl, hy0, hk0, hg0⟩ := hp0
  have hl0 : ∀ g ∈ idsL (cReln y0), g < hs0 := fun g hg => hr0 g (by first | (simp [cI, cReln, cS, V.ids, idsVL, idsL] at hg; done) | simpa [cI, cReln, cS, V.ids, idsVL, idsL] using hg)
  simp at hn0
  simp [cI, cReln, cS, dSl]
  refine call_some (w_laws_toRelation a.del ha.2.2 (by have := hwt; omega)) rfl (by simp) fun n1 hs1 r1 hn1 hm1 hp1 hr1 => ?_
  obtain ⟨y1, rfl, hy1, hk1, hg1⟩ := hp1
  have hl1 : ∀ g ∈ idsL (cReln y1), g < hs1 := fun g hg => hr1 g (by first | (simp [cI, cReln, cS, V.ids, idsVL, idsL] at hg; done) | simpa [cI, cReln, cS, V.ids, idsVL, idsL] using hg)
  simp at hn1
  simp [cI, cReln, cS, dSl]
  refine ⟨⟨a.name, y0, y1⟩, ?_⟩
  refine ⟨by simp [cDelta, cI, cReln, cS, cStr, dSl], by simp only [plDelta, hy0, hy1], ⟨ha.1, hk0, hk1⟩, ?_⟩
  have G0 : Good (cStr a.name) (whStr a.name) B := good_Str B a.name
  have G1 : Good (cReln y0) (whReln y0) B := hg0.le (by omega)
  have G2 : Good (cReln y1) (whReln y1) B := hg1.le (by omega)
  have U0 : ∀ g ∈ idsL (cStr a.name), g < B := by simp [cStr, idsL, D.ids]
  have K1 : Good (cStr a.name ++ cReln y0) ((whStr a.name) ∧ whReln y0) B := Good.app G0 G1 (fun g h h' => by have h1 := U0 g h; have h2 := hg0.lo g h'; omega)
  have U1 : ∀ g ∈ idsL (cStr a.name ++ cReln y0), g < hs0 := fun g h => by rw [idsL_app] at h; rcases List.mem_append.1 h with h | h; (have h1 := U0 g h; omega); exact hl0 g h
  have K2 : Good (cStr a.name ++ cReln y0 ++ cReln y1) (((whStr a.name) ∧ whReln y0) ∧ whReln y1) B := Good.app K1 G2 (fun g h h' => by have h1 := U1 g h; have h2 := hg1.lo g h'; omega)
  have U2 : ∀ g ∈ idsL (cStr a.name ++ cReln y0 ++ cReln y1), g < hs1 := fun g h => by rw [idsL_app] at h; rcases List.mem_append.1 h with h | h; (have h1 := U1 g h; omega); exact hl1 g h
  exact ⟨K2.nd, K2.lo, by have h := K2.wh; exact ⟨h.1.1, h.1.2, h.2⟩⟩
theorem w_laws_toDeltaS (a : Sl (Delta)) (ha : okS okDelta a) (hb : swS swDelta a ≤ 1048576) :
   VC Tryz.prog 35 [.d (dSl cDelta a)] (fun n r => ∃ y : Sl (Delta), r = .d (dSl cDelta y) ∧ plS plDelta y = plS plDelta a ∧ okS okDelta y ∧ Good (cS cDelta y) (whS whDelta y) n) := by
  refine VC.of E s35 (by kernel_rfl) Tryz.func35 (by rfl) (by kernel_rfl) (by simp [Tryz.f35]) (by simp [Tryz.f35]) s35_ok fun B => ?_
  have hwt : swS swDelta a = a.xs.length + sumW swDelta a.xs := rfl
  simp [Tryz.f35, dSl]
  refine ⟨⟨by omega, by simp only [maxLen]; omega⟩, ?_⟩
  refine loop_rule2 (X := Nat × List (Delta)) (fun p h => p.1 ≤ a.xs.length ∧ p.2.length = p.1 ∧ p.2.map plDelta = (a.xs.map plDelta).take p.1 ∧ (∀ y ∈ p.2, okDelta y) ∧ GoodL cDelta whDelta B h p.2) (fun p => [(0, .d (.sl a.id a.T (a.xs.map cDelta))), (3, .own 7 0 a.xs.length), (4, .d (.int .i64 p.1))]) (fun p => [(7, some (.row 62 5 (p.2.map cDelta ++ List.replicate (a.xs.length - p.1) [.str [], .int .i64 0, .sl none none [], .int .i64 0, .sl none none []])))]) (fun p => a.xs.length - p.1) (0, []) ⟨by simp, rfl, by simp, by simp, GoodL.nil⟩ (by simp) (by simp) ?_
  rintro ⟨i, ys⟩ hs t m ⟨hi, hyl, hpl, hok, hgd⟩ hh
  simp only at hi hyl hpl hok hgd
  by_cases hlt : i < a.xs.length
  · have hwi := wr1 (i := i) (by omega)
    have hmem : a.xs[i] ∈ a.xs := List.getElem_mem _
    have hsw := sumW_mem swDelta hmem
    simp [cDelta, cI, cReln, cS, cStr, hlt]
    refine call_some (w_laws_toDelta a.xs[i] (ha.2 _ hmem) (by omega)) rfl (by simp) fun n hs' r hn hn' hp hr => ?_
    obtain ⟨y, rfl, hy1, hy2, hy3⟩ := hp
    simp at hn
    have hr' : ∀ g ∈ idsL (cDelta y), g < hs' := fun g hg => hr g (by first | (simp [cDelta, cI, cReln, cS, cStr, V.ids, idsVL, idsL] at hg; done) | simpa [cDelta, cI, cReln, cS, cStr, V.ids, idsVL, idsL] using hg)
    have hyi : ys.length = i := hyl
    simp [cDelta, cI, cReln, cS, cStr, hlt, hwi, hyi, show i + (a.xs.length - i) = a.xs.length by omega, dSl]
    refine back2 (i + 1, ys ++ [y]) ⟨by omega, by simp [hyi], ?_, ?_, ?_⟩ (by simp <;> omega) rfl (by simp <;> omega) (by simp) ?_
    · simp only [List.map_append, hpl, List.map_cons, List.map_nil, hy1]
      rw [List.take_succ_eq_append_getElem (by simpa using hlt)]; simp
    · intro y' hy'
      rcases List.mem_append.1 hy' with h | h
      · exact hok y' h
      · rw [List.mem_singleton.1 h]; exact hy2
    · exact GoodL.snoc hgd (by omega) hn' hy3 hr'
    · simp [rep_set0 hlt, cDelta, cI, cReln, cS, cStr, dSl]
  · have hn : i = a.xs.length := by omega
    subst hn
    simp
    intro γ hs' h1 hg
    obtain ⟨q1, q2⟩ := gam_at hg (k := 7) (T := 62) (sz := 5) (es := ys.map cDelta) (by simp [upd])
    have q3 := gam_row hg (k := 7) (T := 62) (sz := 5) (es := ys.map cDelta) (by simp [upd])
    clear hg
    refine ⟨_, ⟨by omega, rfl⟩, ⟨γ 7, some (62, 5), ys⟩, ?_, by rw [List.take_of_length_le (by simp)] at hpl; exact hpl, ⟨by simp only [maxLen]; show ys.length ≤ _; omega, hok⟩, good_row (fun g hg => (q1 g hg).1) (by simpa using q2) q3 ⟨hgd.nd, hgd.lo⟩ hgd.wh⟩
    rw [if_pos hyl.symm, List.take_of_length_le (by simp [hyl])]
theorem w_laws_toCountedRelation (a : Cnt) (ha : okCnt a) (hb : swCnt a ≤ 1048576) :
   VC Tryz.prog 74 [.agg ((cCnt a).map V.d)] (fun n r => ∃ y : Cnt, r = .agg ((cCnt y).map V.d) ∧ plCnt y = plCnt a ∧ okCnt y ∧ Good (cCnt y) (whCnt y) n) := by
  refine VC.of E s74 (by kernel_rfl) Tryz.func74 (by rfl) (by kernel_rfl) (by simp [Tryz.f74]) (by simp [Tryz.f74]) s74_ok fun B => ?_
  have hwt : swCnt a = swS (swS swI) a.rows + swS swI a.cs := rfl
  simp [Tryz.f74, cCnt, cI, cS, dSl]
  refine call_some (w_laws_toIntSS a.rows ha.2.1 (by have := hwt; omega)) rfl (by simp) fun n0 hs0 r0 hn0 hm0 hp0 hr0 => ?_
  obtain ⟨y0, rfl, hy0, hk0, hg0⟩ := hp0
  have hl0 : ∀ g ∈ idsL (cS (cS cI) y0), g < hs0 := fun g hg => hr0 g (by first | (simp [cS, V.ids, idsVL, idsL] at hg; done) | simpa [cS, V.ids, idsVL, idsL] using hg)
  simp at hn0
  simp [cS, dSl]
  refine call_some (w_laws_toIntS a.cs ha.2.2 (by have := hwt; simp only [swS] at this; omega)) rfl (by simp) fun n1 hs1 r1 hn1 hm1 hp1 hr1 => ?_
  obtain ⟨y1, rfl, hy1, hk1, hg1⟩ := hp1
  have hl1 : ∀ g ∈ idsL (cS cI y1), g < hs1 := fun g hg => hr1 g (by first | (simp [cS, V.ids, idsVL, idsL] at hg; done) | simpa [cS, V.ids, idsVL, idsL] using hg)
  simp at hn1
  simp [cS, dSl]
  refine ⟨⟨a.ar, y0, y1⟩, ?_⟩
  refine ⟨by simp [cCnt, cI, cS, dSl], by simp only [plCnt, hy0, hy1], ⟨ha.1, hk0, hk1⟩, ?_⟩
  have G0 : Good (cI a.ar) (whI a.ar) B := good_I B a.ar
  have G1 : Good (cS (cS cI) y0) (whS (whS whI) y0) B := hg0.le (by omega)
  have G2 : Good (cS cI y1) (whS whI y1) B := hg1.le (by omega)
  have U0 : ∀ g ∈ idsL (cI a.ar), g < B := by simp [cI, idsL, D.ids]
  have K1 : Good (cI a.ar ++ cS (cS cI) y0) ((whI a.ar) ∧ whS (whS whI) y0) B := Good.app G0 G1 (fun g h h' => by have h1 := U0 g h; have h2 := hg0.lo g h'; omega)
  have U1 : ∀ g ∈ idsL (cI a.ar ++ cS (cS cI) y0), g < hs0 := fun g h => by rw [idsL_app] at h; rcases List.mem_append.1 h with h | h; (have h1 := U0 g h; omega); exact hl0 g h
  have K2 : Good (cI a.ar ++ cS (cS cI) y0 ++ cS cI y1) (((whI a.ar) ∧ whS (whS whI) y0) ∧ whS whI y1) B := Good.app K1 G2 (fun g h h' => by have h1 := U1 g h; have h2 := hg1.lo g h'; omega)
  have U2 : ∀ g ∈ idsL (cI a.ar ++ cS (cS cI) y0 ++ cS cI y1), g < hs1 := fun g h => by rw [idsL_app] at h; rcases List.mem_append.1 h with h | h; (have h1 := U1 g h; omega); exact hl1 g h
  exact ⟨K2.nd, K2.lo, by have h := K2.wh; exact ⟨h.1.1, h.1.2, h.2⟩⟩
theorem w_laws_heldCountedRelation (a : Cnt) (k : Int) (h0 : 1 ≤ k) (h1 : k + wtTCnt a ≤ 4611686018427387904) (ha : okCnt a) :
   VC Tryz.prog 28 [.agg ((cCnt a).map V.d), .d (.int .i64 k)] (fun _ r => r = .d (.int .i64 (hv (hlTCnt a k) k (wtTCnt a)))) := by
  refine VC.of E s28 (by kernel_rfl) Tryz.func28 (by rfl) (by kernel_rfl) (by simp [Tryz.f28]) (by simp [Tryz.f28]) s28_ok fun B => ?_
  have hwt : wtTCnt a = wtS (wtS wtI) a.rows + wtS wtI a.cs := rfl
  have hex : hlTCnt a k = (hlS (hlS (hlI) (wtI)) (wtS wtI) a.rows (k) && hlS (hlI) (wtI) a.cs (k + wtS (wtS wtI) a.rows)) := rfl
  simp [Tryz.f28, cCnt, cI, cS, dSl]
  refine call_pure (w_laws_heldIntSS a.rows _ (by omega) (by omega) ha.2.1) rfl (by simp) rfl fun hs0 hh0 => ?_
  by_cases c0 : hlS (hlS (hlI) (wtI)) (wtS wtI) a.rows (k) = true
  case neg =>
    have c0' : hlS (hlS (hlI) (wtI)) (wtS wtI) a.rows (k) = false := by simpa using c0
    simp [c0', hex]
  have hn0 : ¬ k + (wtS (wtS wtI) a.rows : Int) < 0 := by omega
  simp [c0, hn0]
  refine call_pure (w_laws_heldIntS a.cs _ (by omega) (by omega) ha.2.2) rfl (by simp) rfl fun hs1 hh1 => ?_
  by_cases c1 : hlS (hlI) (wtI) a.cs (k + wtS (wtS wtI) a.rows) = true
  case neg =>
    have c1' : hlS (hlI) (wtI) a.cs (k + wtS (wtS wtI) a.rows) = false := by simpa using c1
    simp [c1', hex]
  have hn1 : ¬ k + wtS (wtS wtI) a.rows + (wtS wtI a.cs : Int) < 0 := by omega
  simp [c1, hn1]
  simp [hex, c0, c1, hwt]
  try omega
theorem w_laws_toAtom (a : Atom) (ha : okAtom a) (hb : swAtom a ≤ 1048576) :
   VC Tryz.prog 88 [.agg ((cAtom a).map V.d)] (fun n r => ∃ y : Atom, r = .agg ((cAtom y).map V.d) ∧ plAtom y = plAtom a ∧ okAtom y ∧ Good (cAtom y) (whAtom y) n) := by
  refine VC.of E s88 (by kernel_rfl) Tryz.func88 (by rfl) (by kernel_rfl) (by simp [Tryz.f88]) (by simp [Tryz.f88]) s88_ok fun B => ?_
  have hwt : swAtom a = swStr a.rel + swS swI a.vars := rfl
  simp [Tryz.f88, cAtom, cS, cStr, dSl]
  refine call_some (w_laws_toIntS a.vars ha.2 (by have := hwt; simp only [swS] at this; omega)) rfl (by simp) fun n0 hs0 r0 hn0 hm0 hp0 hr0 => ?_
  obtain ⟨y0, rfl, hy0, hk0, hg0⟩ := hp0
  have hl0 : ∀ g ∈ idsL (cS cI y0), g < hs0 := fun g hg => hr0 g (by first | (simp [cS, V.ids, idsVL, idsL] at hg; done) | simpa [cS, V.ids, idsVL, idsL] using hg)
  simp at hn0
  simp [cS, dSl]
  refine ⟨⟨a.rel, y0⟩, ?_⟩
  refine ⟨by simp [cAtom, cS, cStr, dSl], by simp only [plAtom, hy0], ⟨ha.1, hk0⟩, ?_⟩
  have G0 : Good (cStr a.rel) (whStr a.rel) B := good_Str B a.rel
  have G1 : Good (cS cI y0) (whS whI y0) B := hg0.le (by omega)
  have U0 : ∀ g ∈ idsL (cStr a.rel), g < B := by simp [cStr, idsL, D.ids]
  have K1 : Good (cStr a.rel ++ cS cI y0) ((whStr a.rel) ∧ whS whI y0) B := Good.app G0 G1 (fun g h h' => by have h1 := U0 g h; have h2 := hg0.lo g h'; omega)
  have U1 : ∀ g ∈ idsL (cStr a.rel ++ cS cI y0), g < hs0 := fun g h => by rw [idsL_app] at h; rcases List.mem_append.1 h with h | h; (have h1 := U0 g h; omega); exact hl0 g h
  exact ⟨K1.nd, K1.lo, by have h := K1.wh; exact ⟨h.1, h.2⟩⟩
theorem w_laws_toAtomS (a : Sl (Atom)) (ha : okS okAtom a) (hb : swS swAtom a ≤ 1048576) :
   VC Tryz.prog 45 [.d (dSl cAtom a)] (fun n r => ∃ y : Sl (Atom), r = .d (dSl cAtom y) ∧ plS plAtom y = plS plAtom a ∧ okS okAtom y ∧ Good (cS cAtom y) (whS whAtom y) n) := by
  refine VC.of E s45 (by kernel_rfl) Tryz.func45 (by rfl) (by kernel_rfl) (by simp [Tryz.f45]) (by simp [Tryz.f45]) s45_ok fun B => ?_
  have hwt : swS swAtom a = a.xs.length + sumW swAtom a.xs := rfl
  simp [Tryz.f45, dSl]
  refine ⟨⟨by omega, by simp only [maxLen]; omega⟩, ?_⟩
  refine loop_rule2 (X := Nat × List (Atom)) (fun p h => p.1 ≤ a.xs.length ∧ p.2.length = p.1 ∧ p.2.map plAtom = (a.xs.map plAtom).take p.1 ∧ (∀ y ∈ p.2, okAtom y) ∧ GoodL cAtom whAtom B h p.2) (fun p => [(0, .d (.sl a.id a.T (a.xs.map cAtom))), (3, .own 7 0 a.xs.length), (4, .d (.int .i64 p.1))]) (fun p => [(7, some (.row 125 2 (p.2.map cAtom ++ List.replicate (a.xs.length - p.1) [.str [], .sl none none []])))]) (fun p => a.xs.length - p.1) (0, []) ⟨by simp, rfl, by simp, by simp, GoodL.nil⟩ (by simp) (by simp) ?_
  rintro ⟨i, ys⟩ hs t m ⟨hi, hyl, hpl, hok, hgd⟩ hh
  simp only at hi hyl hpl hok hgd
  by_cases hlt : i < a.xs.length
  · have hwi := wr1 (i := i) (by omega)
    have hmem : a.xs[i] ∈ a.xs := List.getElem_mem _
    have hsw := sumW_mem swAtom hmem
    simp [cAtom, cS, cStr, hlt]
    refine call_some (w_laws_toAtom a.xs[i] (ha.2 _ hmem) (by omega)) rfl (by simp) fun n hs' r hn hn' hp hr => ?_
    obtain ⟨y, rfl, hy1, hy2, hy3⟩ := hp
    simp at hn
    have hr' : ∀ g ∈ idsL (cAtom y), g < hs' := fun g hg => hr g (by first | (simp [cAtom, cS, cStr, V.ids, idsVL, idsL] at hg; done) | simpa [cAtom, cS, cStr, V.ids, idsVL, idsL] using hg)
    have hyi : ys.length = i := hyl
    simp [cAtom, cS, cStr, hlt, hwi, hyi, show i + (a.xs.length - i) = a.xs.length by omega, dSl]
    refine back2 (i + 1, ys ++ [y]) ⟨by omega, by simp [hyi], ?_, ?_, ?_⟩ (by simp <;> omega) rfl (by simp <;> omega) (by simp) ?_
    · simp only [List.map_append, hpl, List.map_cons, List.map_nil, hy1]
      rw [List.take_succ_eq_append_getElem (by simpa using hlt)]; simp
    · intro y' hy'
      rcases List.mem_append.1 hy' with h | h
      · exact hok y' h
      · rw [List.mem_singleton.1 h]; exact hy2
    · exact GoodL.snoc hgd (by omega) hn' hy3 hr'
    · simp [rep_set0 hlt, cAtom, cS, cStr, dSl]
  · have hn : i = a.xs.length := by omega
    subst hn
    simp
    intro γ hs' h1 hg
    obtain ⟨q1, q2⟩ := gam_at hg (k := 7) (T := 125) (sz := 2) (es := ys.map cAtom) (by simp [upd])
    have q3 := gam_row hg (k := 7) (T := 125) (sz := 2) (es := ys.map cAtom) (by simp [upd])
    clear hg
    refine ⟨_, ⟨by omega, rfl⟩, ⟨γ 7, some (125, 2), ys⟩, ?_, by rw [List.take_of_length_le (by simp)] at hpl; exact hpl, ⟨by simp only [maxLen]; show ys.length ≤ _; omega, hok⟩, good_row (fun g hg => (q1 g hg).1) (by simpa using q2) q3 ⟨hgd.nd, hgd.lo⟩ hgd.wh⟩
    rw [if_pos hyl.symm, List.take_of_length_le (by simp [hyl])]
theorem w_laws_heldAtomS (a : Sl (Atom)) (k : Int) (h0 : 1 ≤ k) (h1 : k + wtS wtAtom a ≤ 4611686018427387904) (ha : okS okAtom a) :
   VC Tryz.prog 104 [.d (dSl cAtom a), .d (.int .i64 k)] (fun _ r => r = .d (.int .i64 (hv (hlS (hlAtom) (wtAtom) a k) k (wtS wtAtom a)))) := by
  refine VC.of E s104 (by kernel_rfl) Tryz.func104 (by rfl) (by kernel_rfl) (by simp [Tryz.f104]) (by simp [Tryz.f104]) s104_ok fun B => ?_
  obtain ⟨id, T, xs⟩ := a
  have ha1 := ha.1
  simp only [maxLen] at ha1
  have hwt : wtS wtAtom (⟨id, T, xs⟩ : Sl (Atom)) = sumW wtAtom xs := rfl
  have hhl : hlS (hlAtom) (wtAtom) (⟨id, T, xs⟩ : Sl (Atom)) k = hlList hlAtom wtAtom xs k := rfl
  rw [hwt] at h1
  rw [hwt, hhl]
  simp [Tryz.f104, s104_4, dSl]
  refine loop_rule (X := Nat) (fun i => i ≤ xs.length ∧ hlList hlAtom wtAtom (xs.take i) k = true) (fun i => [(0, .d (.sl id T (xs.map cAtom))), (1, .d (.int .i64 (k + sumW wtAtom (xs.take i)))), (5, .d (.int .i64 i))]) (fun _ => []) (fun i => xs.length - i) 0 (by simp [hlList]) (by simp) (by simp) ?_
  intro i hs t m hi hh
  by_cases hlt : i < xs.length
  · have hwi := wr1 (i := i) (by omega)
    have e1 := sumW_succ wtAtom hlt
    have e2 := sumW_le wtAtom xs (i + 1)
    have hmem : xs[i] ∈ xs := List.getElem_mem _
    have hstep := hlList_step (hl := hlAtom) (wt := wtAtom) (k := k) hlt
    rw [hi.2, Bool.true_and] at hstep
    have hbad := hlList_bad (hl := hlAtom) (wt := wtAtom) (k := k) hlt
    have h112 : ∀ x : Int, 1 + (1 + x) = 2 + x := fun x => by omega
    have hex : hlAtom xs[i] (k + sumW wtAtom (xs.take i)) = (xs[i].rel == mtext (k + sumW wtAtom (xs.take i)) && hlS (hlI) (wtI) xs[i].vars (k + sumW wtAtom (xs.take i) + 1)) := by simp [hlAtom, hlStr, wtAtom, wtStr, Bool.and_assoc, Int.add_assoc, h112]
    have hwx : wtAtom xs[i] = 1 + wtS wtI xs[i].vars := by first | rfl | (simp only [wtTab, wtDelta, wtReln, wtStr, wtI]; omega)
    have hk0 : IntKind.i64.wrap (k + sumW wtAtom (xs.take i) + 1) = k + sumW wtAtom (xs.take i) + 1 := wrap64_of (by omega) (by omega)
    simp [cAtom, cS, cStr, hlt, dSl, s104_4, ]
    refine call_pure (w_laws_markText _ (by omega) (by omega)) rfl (by simp) rfl fun hs0 hh0 => ?_
    simp at hh0
    by_cases c0 : xs[i].rel = mtext (k + sumW wtAtom (xs.take i))
    case neg => simp [c0, hbad (by simp [hex, c0])]
    simp [c0, hk0, hlt, cAtom, cS, cStr, s104_4, ]
    refine call_pure (w_laws_heldIntS xs[i].vars _ (by omega) (by omega) ((ha.2 _ hmem).2)) rfl (by simp) rfl fun hs1 hh1 => ?_
    simp at hh1
    by_cases c1 : hlS (hlI) (wtI) xs[i].vars (k + sumW wtAtom (xs.take i) + 1) = true
    case neg =>
      have c1' : hlS (hlI) (wtI) xs[i].vars (k + sumW wtAtom (xs.take i) + 1) = false := by simpa using c1
      simp [c1', hbad (by simp [hex, c1'])]
    have hn1 : ¬ k + sumW wtAtom (xs.take i) + 1 + (wtS wtI xs[i].vars : Int) < 0 := by omega
    simp [c1, hn1, hlt, cAtom, cS, cStr, dSl, s104_4, ]
    simp [hwi]
    refine back (i + 1) ⟨by omega, hstep.trans (hex.trans (by simp [c0, c1]))⟩ (by omega) rfl (by simp <;> omega) ?_ (by simp)
    simp
    omega
  · have hn : i = xs.length := by omega
    subst hn
    have h2 := hi.2
    rw [List.take_length] at h2
    simp [h2]
theorem w_laws_toQuery (a : Query) (ha : okQuery a) (hb : swQuery a ≤ 1048576) :
   VC Tryz.prog 11 [.agg ((cQuery a).map V.d)] (fun n r => ∃ y : Query, r = .agg ((cQuery y).map V.d) ∧ plQuery y = plQuery a ∧ okQuery y ∧ Good (cQuery y) (whQuery y) n) := by
  refine VC.of E s11 (by kernel_rfl) Tryz.func11 (by rfl) (by kernel_rfl) (by simp [Tryz.f11]) (by simp [Tryz.f11]) s11_ok fun B => ?_
  have hwt : swQuery a = swS swAtom a.atoms + swS swI a.out := rfl
  simp [Tryz.f11, cI, cQuery, cS, dSl]
  refine call_some (w_laws_toAtomS a.atoms ha.2.1 (by have := hwt; omega)) rfl (by simp) fun n0 hs0 r0 hn0 hm0 hp0 hr0 => ?_
  obtain ⟨y0, rfl, hy0, hk0, hg0⟩ := hp0
  have hl0 : ∀ g ∈ idsL (cS cAtom y0), g < hs0 := fun g hg => hr0 g (by first | (simp [cS, V.ids, idsVL, idsL] at hg; done) | simpa [cS, V.ids, idsVL, idsL] using hg)
  simp at hn0
  simp [cS, dSl]
  refine call_some (w_laws_toIntS a.out ha.2.2 (by have := hwt; simp only [swS] at this; omega)) rfl (by simp) fun n1 hs1 r1 hn1 hm1 hp1 hr1 => ?_
  obtain ⟨y1, rfl, hy1, hk1, hg1⟩ := hp1
  have hl1 : ∀ g ∈ idsL (cS cI y1), g < hs1 := fun g hg => hr1 g (by first | (simp [cS, V.ids, idsVL, idsL] at hg; done) | simpa [cS, V.ids, idsVL, idsL] using hg)
  simp at hn1
  simp [cS, dSl]
  refine ⟨⟨a.n, y0, y1⟩, ?_⟩
  refine ⟨by simp [cI, cQuery, cS, dSl], by simp only [plQuery, hy0, hy1], ⟨ha.1, hk0, hk1⟩, ?_⟩
  have G0 : Good (cI a.n) (whI a.n) B := good_I B a.n
  have G1 : Good (cS cAtom y0) (whS whAtom y0) B := hg0.le (by omega)
  have G2 : Good (cS cI y1) (whS whI y1) B := hg1.le (by omega)
  have U0 : ∀ g ∈ idsL (cI a.n), g < B := by simp [cI, idsL, D.ids]
  have K1 : Good (cI a.n ++ cS cAtom y0) ((whI a.n) ∧ whS whAtom y0) B := Good.app G0 G1 (fun g h h' => by have h1 := U0 g h; have h2 := hg0.lo g h'; omega)
  have U1 : ∀ g ∈ idsL (cI a.n ++ cS cAtom y0), g < hs0 := fun g h => by rw [idsL_app] at h; rcases List.mem_append.1 h with h | h; (have h1 := U0 g h; omega); exact hl0 g h
  have K2 : Good (cI a.n ++ cS cAtom y0 ++ cS cI y1) (((whI a.n) ∧ whS whAtom y0) ∧ whS whI y1) B := Good.app K1 G2 (fun g h h' => by have h1 := U1 g h; have h2 := hg1.lo g h'; omega)
  have U2 : ∀ g ∈ idsL (cI a.n ++ cS cAtom y0 ++ cS cI y1), g < hs1 := fun g h => by rw [idsL_app] at h; rcases List.mem_append.1 h with h | h; (have h1 := U1 g h; omega); exact hl1 g h
  exact ⟨K2.nd, K2.lo, by have h := K2.wh; exact ⟨h.1.1, h.1.2, h.2⟩⟩
theorem w_laws_heldQuery (a : Query) (k : Int) (h0 : 1 ≤ k) (h1 : k + wtTQuery a ≤ 4611686018427387904) (ha : okQuery a) :
   VC Tryz.prog 57 [.agg ((cQuery a).map V.d), .d (.int .i64 k)] (fun _ r => r = .d (.int .i64 (hv (hlTQuery a k) k (wtTQuery a)))) := by
  refine VC.of E s57 (by kernel_rfl) Tryz.func57 (by rfl) (by kernel_rfl) (by simp [Tryz.f57]) (by simp [Tryz.f57]) s57_ok fun B => ?_
  have hwt : wtTQuery a = wtS wtAtom a.atoms + wtS wtI a.out := rfl
  have hex : hlTQuery a k = (hlS (hlAtom) (wtAtom) a.atoms (k) && hlS (hlI) (wtI) a.out (k + wtS wtAtom a.atoms)) := rfl
  simp [Tryz.f57, cI, cQuery, cS, dSl]
  refine call_pure (w_laws_heldAtomS a.atoms _ (by omega) (by omega) ha.2.1) rfl (by simp) rfl fun hs0 hh0 => ?_
  by_cases c0 : hlS (hlAtom) (wtAtom) a.atoms (k) = true
  case neg =>
    have c0' : hlS (hlAtom) (wtAtom) a.atoms (k) = false := by simpa using c0
    simp [c0', hex]
  have hn0 : ¬ k + (wtS wtAtom a.atoms : Int) < 0 := by omega
  simp [c0, hn0]
  refine call_pure (w_laws_heldIntS a.out _ (by omega) (by omega) ha.2.2) rfl (by simp) rfl fun hs1 hh1 => ?_
  by_cases c1 : hlS (hlI) (wtI) a.out (k + wtS wtAtom a.atoms) = true
  case neg =>
    have c1' : hlS (hlI) (wtI) a.out (k + wtS wtAtom a.atoms) = false := by simpa using c1
    simp [c1', hex]
  have hn1 : ¬ k + wtS wtAtom a.atoms + (wtS wtI a.out : Int) < 0 := by omega
  simp [c1, hn1]
  simp [hex, c0, c1, hwt]
  try omega
theorem w_laws_toView (a : View) (ha : okView a) (hb : swView a ≤ 1048576) :
   VC Tryz.prog 31 [.agg ((cView a).map V.d)] (fun n r => ∃ y : View, r = .agg ((cView y).map V.d) ∧ plView y = plView a ∧ okView y ∧ Good (cView y) (whView y) n) := by
  refine VC.of E s31 (by kernel_rfl) Tryz.func31 (by rfl) (by kernel_rfl) (by simp [Tryz.f31]) (by simp [Tryz.f31]) s31_ok fun B => ?_
  have hwt : swView a = swQuery a.q + swCnt a.r := rfl
  simp [Tryz.f31, cCnt, cI, cQuery, cS, cView, dSl]
  refine call_some (w_laws_toQuery a.q ha.1 (by have := hwt; omega)) rfl (by simp) fun n0 hs0 r0 hn0 hm0 hp0 hr0 => ?_
  obtain ⟨y0, rfl, hy0, hk0, hg0⟩ := hp0
  have hl0 : ∀ g ∈ idsL (cQuery y0), g < hs0 := fun g hg => hr0 g (by first | (simp [cI, cQuery, cS, V.ids, idsVL, idsL] at hg; done) | simpa [cI, cQuery, cS, V.ids, idsVL, idsL] using hg)
  simp at hn0
  simp [cI, cQuery, cS, dSl]
  refine call_some (w_laws_toCountedRelation a.r ha.2 (by have := hwt; omega)) rfl (by simp) fun n1 hs1 r1 hn1 hm1 hp1 hr1 => ?_
  obtain ⟨y1, rfl, hy1, hk1, hg1⟩ := hp1
  have hl1 : ∀ g ∈ idsL (cCnt y1), g < hs1 := fun g hg => hr1 g (by first | (simp [cCnt, cI, cS, V.ids, idsVL, idsL] at hg; done) | simpa [cCnt, cI, cS, V.ids, idsVL, idsL] using hg)
  simp at hn1
  simp [cCnt, cI, cS, dSl]
  refine ⟨⟨y0, y1⟩, ?_⟩
  refine ⟨by simp [cCnt, cI, cQuery, cS, cView, dSl], by simp only [plView, hy0, hy1], ⟨hk0, hk1⟩, ?_⟩
  have G0 : Good (cQuery y0) (whQuery y0) B := hg0.le (by omega)
  have G1 : Good (cCnt y1) (whCnt y1) B := hg1.le (by omega)
  have U0 : ∀ g ∈ idsL (cQuery y0), g < hs0 := hl0
  have K1 : Good (cQuery y0 ++ cCnt y1) ((whQuery y0) ∧ whCnt y1) B := Good.app G0 G1 (fun g h h' => by have h1 := U0 g h; have h2 := hg1.lo g h'; omega)
  have U1 : ∀ g ∈ idsL (cQuery y0 ++ cCnt y1), g < hs1 := fun g h => by rw [idsL_app] at h; rcases List.mem_append.1 h with h | h; (have h1 := U0 g h; omega); exact hl1 g h
  exact ⟨K1.nd, K1.lo, by have h := K1.wh; exact ⟨h.1, h.2⟩⟩
theorem w_laws_heldView (a : View) (k : Int) (h0 : 1 ≤ k) (h1 : k + wtTView a ≤ 4611686018427387904) (ha : okView a) :
   VC Tryz.prog 19 [.agg ((cView a).map V.d), .d (.int .i64 k)] (fun _ r => r = .d (.int .i64 (hv (hlTView a k) k (wtTView a)))) := by
  refine VC.of E s19 (by kernel_rfl) Tryz.func19 (by rfl) (by kernel_rfl) (by simp [Tryz.f19]) (by simp [Tryz.f19]) s19_ok fun B => ?_
  have hwt : wtTView a = wtTQuery a.q + wtTCnt a.r := rfl
  have hex : hlTView a k = (hlTQuery a.q (k) && hlTCnt a.r (k + wtTQuery a.q)) := rfl
  simp [Tryz.f19, cCnt, cI, cQuery, cS, cView, dSl]
  refine call_pure (w_laws_heldQuery a.q _ (by omega) (by omega) ha.1) rfl (by simp) rfl fun hs0 hh0 => ?_
  by_cases c0 : hlTQuery a.q (k) = true
  case neg =>
    have c0' : hlTQuery a.q (k) = false := by simpa using c0
    simp [c0', hex]
  have hn0 : ¬ k + (wtTQuery a.q : Int) < 0 := by omega
  simp [c0, hn0]
  refine call_pure (w_laws_heldCountedRelation a.r _ (by omega) (by omega) ha.2) rfl (by simp) rfl fun hs1 hh1 => ?_
  by_cases c1 : hlTCnt a.r (k + wtTQuery a.q) = true
  case neg =>
    have c1' : hlTCnt a.r (k + wtTQuery a.q) = false := by simpa using c1
    simp [c1', hex]
  have hn1 : ¬ k + wtTQuery a.q + (wtTCnt a.r : Int) < 0 := by omega
  simp [c1, hn1]
  simp [hex, c0, c1, hwt]
  try omega

end Go.Proofs.YtggbpdjjlgejmaaGreat


namespace Go.Proofs.YtggbpdjjlgejmaaGreat
open Go.Vs Go.Proofs Go
set_option maxRecDepth 100000
set_option maxHeartbeats 1000000

theorem w_laws_markIntS (a : Ints) (k : Int) (h0 : 1 ≤ k) (h1 : k + wtS wtI a ≤ 4611686018427387904) (hw : whS whI a) (hl0 : okS okI a) (hnd : (dInts a).ids.Nodup) :
   VX Tryz.prog 56 (dInts a).ids [.d (dInts a), .d (.int .i64 k)] none (fun _ r _ ws => r = .d (.int .i64 (k + wtS wtI a)) ∧ ws = [dInts (mkS mkI wtI a k)]) := by
  refine VX.of E s56 (by kernel_rfl) Tryz.func56 (by rfl) (by kernel_rfl) (by simp [Tryz.f56]) (by simp [Tryz.f56]) s56_ok (fun g hg => .inl (by simpa using hg)) (fun cs h => nomatch h) fun B hB => ?_
  have hl := hl0.1
  obtain ⟨id, T, xs⟩ := a
  have hwt : wtS wtI (⟨id, T, xs⟩ : Ints) = xs.length := sumW_one (fun _ => rfl) xs
  rw [hwt] at h1 ⊢
  simp only [maxLen] at hl
  simp [Tryz.f56]
  refine loop_rule (X := Nat) (fun i => i ≤ xs.length) (fun i => [(0, .d (dInts ⟨id, T, mkAt mkI wtI xs k i⟩)), (1, .d (.int .i64 (k + i))), (5, .d (.int .i64 i))]) (fun _ => []) (fun i => xs.length - i) 0 (by simp) (by simp) (by simp) ?_
  intro i hs t m hi hh
  by_cases hlt : i < xs.length
  · obtain ⟨g, hg, T', hT⟩ := hw.1.id hlt
    simp only at hg hT
    subst hg hT
    have hk := wr1 (i := i) (by omega)
    have hk2 : IntKind.i64.wrap (k + i + 1) = k + i + 1 := wrap64_of (by omega) (by omega)
    simp [dInts, dSl, hlt, hk, hk2, cI]
    refine back (i + 1) (by omega) (by omega) rfl (by simp) ?_ (by simp)
    have e1 : (List.map cI (mkAt mkI wtI xs k i)).set i [D.int IntKind.i64 (k + ↑i)] = List.map cI (mkAt mkI wtI xs k (i + 1)) := by
      rw [mkAt_succ hlt, ← set_map, show sumW wtI (List.take i xs) = _ from sumW_one (fun _ => rfl) _]
      simp [cI, mkI, Nat.min_eq_left hi]
    have e2 := re_oneSet (g := g) (T := T') (es := List.map cI (mkAt mkI wtI xs k i)) (i := i) (e' := [D.int IntKind.i64 (k + ↑i)]) (fun e he => by
      rw [List.getElem?_map] at he
      simp [hlt] at he
      rw [← he]; rfl)
    rw [e1] at e2
    simp [e1, e2]
    omega
  · have hn : i = xs.length := by omega
    subst hn
    simp [dInts, dSl, vendX]
    refine ⟨[0], fun γ hs' h1 h2 => ?_⟩
    simp [mkS, mkAt_all]

theorem w_laws_markIntSS (a : Sl Ints) (k : Int) (h0 : 1 ≤ k) (h1 : k + wtS (wtS wtI) a ≤ 4611686018427387904) (hw : whS (whS whI) a) (hl : okS (okS okI) a) (hnd : (dRows a).ids.Nodup) :
   VX Tryz.prog 69 (dRows a).ids [.d (dRows a), .d (.int .i64 k)] none (fun _ r _ ws => r = .d (.int .i64 (k + wtS (wtS wtI) a)) ∧ ws = [dRows (mkS (mkS mkI wtI) (wtS wtI) a k)]) := by
  refine VX.of E s69 (by kernel_rfl) Tryz.func69 (by rfl) (by kernel_rfl) (by simp [Tryz.f69]) (by simp [Tryz.f69]) s69_ok (fun g hg => .inl (by simpa using hg)) (fun cs h => nomatch h) fun B hB => ?_
  obtain ⟨id, T, xs⟩ := a
  have hl1 := hl.1
  simp only [maxLen] at hl1
  have hwt : wtS (wtS wtI) (⟨id, T, xs⟩ : Sl Ints) = sumW (wtS wtI) xs := rfl
  rw [hwt] at h1 ⊢
  simp [Tryz.f69]
  refine loop_rule (X := Nat) (fun i => i ≤ xs.length) (fun i => [(0, .d (dSl (cS cI) ⟨id, T, mkAt (mkS mkI wtI) (wtS wtI) xs k i⟩)), (1, .d (.int .i64 (k + sumW (wtS wtI) (xs.take i)))), (5, .d (.int .i64 i))]) (fun _ => []) (fun i => xs.length - i) 0 (by simp) (by simp) (by simp) ?_
  intro i hs t m hi hh
  by_cases hlt : i < xs.length
  · have hk := wr1 (i := i) (by omega)
    have e1 := sumW_succ (wtS wtI) hlt
    have e2 := sumW_le (wtS wtI) xs (i + 1)
    have hmem : xs[i] ∈ xs := List.getElem_mem _
    simp [dSl, hlt, cS]
    refine call_x (E56) (by simp [dSl]) (by simp) (by simp) (fun g hg => .inr ?_) (w_laws_markIntS xs[i] (k + sumW (wtS wtI) (xs.take i)) (by omega) (by omega) (hw.2 _ hmem) (hl.2 _ hmem) (by have := elem_nd (sl_nd hnd).1 hlt; rwa [idsL_cS] at this)) fun n hs' r cs' ws hn hn' hp hr hws => ?_
    · exact elem_ids (s := ⟨id, T, xs⟩) (c := cS cI) (i := i) hlt (by simpa [cS, idsL] using hg)
    obtain ⟨rfl, rfl⟩ := hp
    simp at hn
    have hnd' : (dSl (cS cI) (⟨id, T, mkAt (mkS mkI wtI) (wtS wtI) xs k i⟩ : Sl Ints)).ids.Nodup := by
      have : (dSl (cS cI) (⟨id, T, mkAt (mkS mkI wtI) (wtS wtI) xs k i⟩ : Sl Ints)).ids = (dRows ⟨id, T, xs⟩).ids := by
        simp only [dSl, D.ids]; rw [ids_mkAt (marksS marksI).ids]
      rw [this]; exact hnd
    have e3 := re_elem (c := cS cI) (s := ⟨id, T, mkAt (mkS mkI wtI) (wtS wtI) xs k i⟩) (i := i) (a' := mkS mkI wtI xs[i] (k + sumW (wtS wtI) (xs.take i))) (W := (dInts xs[i]).ids) (ws := [dInts (mkS mkI wtI xs[i] (k + sumW (wtS wtI) (xs.take i)))]) hnd' (by simpa using hlt)
      (fun g hg => by simpa [cS, idsL] using hg) (by simp only [mkAt_get]; exact reL_one (re_root (by simp [cI]) (hw.2 _ hmem).1 (by simp) (fun g hg => mem_slids hg) []))
    simp [dSl, cS, hk] at e3 ⊢
    refine back (i + 1) (by omega) (by omega) rfl (by simp <;> omega) ?_ (by simp)
    simp [e3, mkAt_succ hlt, e1]
    exact ⟨rfl, by omega⟩
  · have hn : i = xs.length := by omega
    subst hn
    simp [dSl, vendX]
    refine ⟨[0], fun γ hs' h1 h2 => ?_⟩
    simp [mkS, mkAt_all]

end Go.Proofs.YtggbpdjjlgejmaaGreat


namespace Go.Proofs.YtggbpdjjlgejmaaGreat
open Go.Vs Go.Proofs Go
set_option maxRecDepth 100000
set_option maxHeartbeats 1000000

theorem simT_Reln {a : Reln} (hw : whReln a) (k : Int) : Sim (cReln a) (cReln (mkTReln a k)) := (Sim.leaf (by simp [D.ids]) Sim.nil).app (sim_mk (marksS marksI) hw.2 (k))
theorem w_laws_markRelation (a : Reln) (k : Int) (h0 : 1 ≤ k) (h1 : k + wtTReln a ≤ 4611686018427387904) (hw : whReln a) (hl : okReln a) (hnd : (idsL (cReln a)).Nodup) :
   VX Tryz.prog 68 (idsL (cReln a)) [.agg ((cReln a).map V.d), .d (.int .i64 k)] none (fun _ r _ ws => r = .d (.int .i64 (k + wtTReln a)) ∧ ws = cReln (mkTReln a k)) := by
  refine VX.of E s68 (by kernel_rfl) Tryz.func68 (by rfl) (by kernel_rfl) (by simp [Tryz.f68]) (by simp [Tryz.f68]) s68_ok ?_ ?_ fun B hB => ?_
  · exact fun g hg => .inl (by simpa [idsVL, V.ids, idsVL_map_d] using hg)
  · exact fun cs h => nomatch h
  have hwt : wtTReln a = wtS (wtS wtI) a.rows := rfl
  have hnd0 := hnd
  simp only [cReln, idsL_app] at hnd0
  have nd0 : (idsL (cI a.ar)).Nodup := nd_left (hnd0)
  have nd1 : (idsL (cS (cS cI) a.rows)).Nodup := nd_right (hnd0)
  have dj0_1 : ∀ g ∈ idsL (cI a.ar), g ∉ idsL (cS (cS cI) a.rows) := fun g hg => nd_disj (hnd0) g (hg)
  simp [Tryz.f68, cI, cReln, cS]
  refine call_x (E69) (by simp) (by simp) (by simp) (fun q hq => .inr ?_) (w_laws_markIntSS a.rows (k) (by omega) (by omega) (hw.2) (hl.2) (by rw [← idsL_cS]; exact nd1)) fun n0 hs0 r cs' ws hn0 hm0 hp hr hws => ?_
  · simp only [idsL_app, idsL, List.append_nil, List.nil_append, List.append_assoc, List.mem_append, cI, cReln, cS] at hq ⊢
    first | (simp [hq]; done) | (simp [D.ids] at hq ⊢; grind)
  obtain ⟨rfl, rfl⟩ := hp
  simp at hn0
  have hre0 : reL (phi ((dSl (cS cI) a.rows).ids) [dSl (cS cI) (mkS (mkS (mkI) (wtI)) (wtS wtI) a.rows (k))]) (cS (cS cI) a.rows) = some (cS (cS cI) (mkS (mkS (mkI) (wtI)) (wtS wtI) a.rows (k))) := by
    have := re_sim (sim_mk (marksS marksI) hw.2 (k)) ((marksS (marksS marksI)).ids _ _) nd1
    rw [idsL_cS] at this
    exact this
  replace hre0 := reVL_map hre0
  simp only [cI, cReln, cS, List.cons_append, List.nil_append, List.map_cons, List.map_nil, reVL_cons, reVL_nil, List.cons.injEq, and_true, reV_int, reV_str, true_and] at hre0
  simp [hre0, cI, cReln, cS]
  simp [vendX]
  refine ⟨[0], fun γ hs' h1 h2 => ?_⟩
  simp [isD, dD, hwt, mkTReln, cI, cReln, cS, reD]
  try omega
theorem w_laws_markTableS (a : Sl (Tab)) (k : Int) (h0 : 1 ≤ k) (h1 : k + wtS wtTab a ≤ 4611686018427387904) (hw : whS whTab a) (hl : okS okTab a) (hnd : (dSl cTab a).ids.Nodup) :
   VX Tryz.prog 54 (dSl cTab a).ids [.d (dSl cTab a), .d (.int .i64 k)] none (fun _ r _ ws => r = .d (.int .i64 (k + wtS wtTab a)) ∧ ws = [dSl cTab (mkS (mkTab) (wtTab) a k)]) := by
  refine VX.of E s54 (by kernel_rfl) Tryz.func54 (by rfl) (by kernel_rfl) (by simp [Tryz.f54]) (by simp [Tryz.f54]) s54_ok ?_ ?_ fun B hB => ?_
  · exact fun g hg => .inl (by simpa using hg)
  · exact fun cs h => nomatch h
  obtain ⟨id, T, xs⟩ := a
  have hl1 := hl.1
  simp only [maxLen] at hl1
  have hwt : wtS wtTab (⟨id, T, xs⟩ : Sl (Tab)) = sumW wtTab xs := rfl
  rw [hwt] at h1 ⊢
  simp [Tryz.f54]
  refine loop_rule (X := Nat) (fun i => i ≤ xs.length) (fun i => [(0, .d (dSl cTab ⟨id, T, mkAt mkTab wtTab xs k i⟩)), (1, .d (.int .i64 (k + sumW wtTab (xs.take i)))), (5, .d (.int .i64 i))]) (fun _ => []) (fun i => xs.length - i) 0 (by simp) (by simp) (by simp) ?_
  intro i hs t m hi hh
  by_cases hlt : i < xs.length
  · have hwi := wr1 (i := i) (by omega)
    have e1 := sumW_succ wtTab hlt
    have e2 := sumW_le wtTab xs (i + 1)
    have hmem : xs[i] ∈ xs := List.getElem_mem _
    have hwx : wtTab xs[i] = 1 + 1 + wtS (wtS wtI) xs[i].rel.rows := by simp only [wtI, wtReln, wtStr, wtTab] <;> omega
    obtain ⟨g, hg, T', hT⟩ := hw.1.id hlt
    simp only at hg hT
    subst hg hT
    have hnd2 := sl_nd hnd
    have hnn : g ∉ idsLL ((mkAt mkTab wtTab xs k i).map cTab) := by rw [ids_mkAt marksTab.ids]; exact hnd2.2 g rfl
    have hni : g ∉ idsL (cTab xs[i]) := fun hin => hnd2.2 g rfl (idsLL_map_mem.2 ⟨_, hmem, hin⟩)
    have hne := elem_nd hnd2.1 hlt
    have hni0 := hni
    have hne0 := hne
    have hap : ∀ W : List Nat, (∀ q ∈ W, q ∈ idsL (cTab xs[i])) → ∀ ws (j : Nat) (e : List D), j ≠ i → ((mkAt mkTab wtTab xs k i).map cTab)[j]? = some e → ∀ q ∈ idsL e, phi W ws q = none := by
      intro W hW ws
      exact nd_mapD (by rw [ids_mkAt marksTab.ids]; exact hnd2.1) (i := i) (by simpa using hlt) (by simpa using hW) ws
    simp only [cI, cReln, cS, cStr, cTab, idsL_app, idsL, D.ids, dSl, List.append_nil, List.nil_append, List.cons_append, List.mem_append, not_or, List.append_assoc] at hni hne
    simp [dSl, hlt]
    have hk0 : IntKind.i64.wrap (k + sumW wtTab (xs.take i) + 1) = k + sumW wtTab (xs.take i) + 1 := wrap64_of (by omega) (by omega)
    refine call_pure (w_laws_markText _ (by omega) (by omega)) rfl (by simp) rfl fun hs0 hh0 => ?_
    simp at hh0
    simp [dSl, hlt, cI, cReln, cS, cStr, cTab, hnn, nin_set hnn, idsL, D.ids, hni, hk0, hwi, ids_mk (wt := (wtS wtI)) (marksS marksI).ids]
    have hk1 : IntKind.i64.wrap (k + sumW wtTab (xs.take i) + 1 + 1) = k + sumW wtTab (xs.take i) + 1 + 1 := wrap64_of (by omega) (by omega)
    simp [dSl, hlt, cI, cReln, cS, cStr, cTab, hnn, nin_set hnn, idsL, D.ids, hni, hk1, hwi, ids_mk (wt := (wtS wtI)) (marksS marksI).ids]
    have hx2 : dSl (cS cI) xs[i].rel.rows ∈ cTab xs[i] := by simp [cI, cReln, cS, cStr, cTab]
    refine call_x (E69) (by simp [dSl]) (by simp) (by simp) (fun q hq => .inr ?_) (w_laws_markIntSS xs[i].rel.rows (k + sumW wtTab (xs.take i) + 1 + 1) (by omega) (by omega) ((hw.2 _ hmem).2.2) ((hl.2 _ hmem).2.2) (nd_mem hne0 hx2)) fun n2 hs2 r cs' ws hn2 hm2 hp hr hws => ?_
    · exact elem_ids (s := ⟨some g, some T', xs⟩) (c := cTab) (i := i) hlt (mem_idsL hx2 hq)
    obtain ⟨rfl, rfl⟩ := hp
    simp at hn2
    have hre2 : reL (phi (dSl (cS cI) xs[i].rel.rows).ids [dSl (cS cI) (mkS (mkS (mkI) (wtI)) (wtS wtI) xs[i].rel.rows (k + sumW wtTab (xs.take i) + 1 + 1))]) [D.str (mtext (k + sumW wtTab (xs.take i))), D.int .i64 (k + sumW wtTab (xs.take i) + 1), dSl (cS cI) xs[i].rel.rows] = some [D.str (mtext (k + sumW wtTab (xs.take i))), D.int .i64 (k + sumW wtTab (xs.take i) + 1), dSl (cS cI) (mkS (mkS (mkI) (wtI)) (wtS wtI) xs[i].rel.rows (k + sumW wtTab (xs.take i) + 1 + 1))] := reL_cons_iff.2 ⟨rfl, reL_cons_iff.2 ⟨rfl, reL_cons_iff.2 ⟨re_root (marksS marksI).len ((hw.2 _ hmem).2.2).1 (by simp) (fun g hg => mem_slids hg) [], rfl⟩⟩⟩
    have hse2 := re_elemD (g := g) (T := some T') (es := (mkAt mkTab wtTab xs k i).map cTab) (phi_out (W := (dSl (cS cI) xs[i].rel.rows).ids) (ws := [dSl (cS cI) (mkS (mkS (mkI) (wtI)) (wtS wtI) xs[i].rel.rows (k + sumW wtTab (xs.take i) + 1 + 1))]) (g := g) (fun h => hni0 (mem_idsL hx2 h))) hre2 (hap _ (fun q hq => mem_idsL hx2 hq) _)
    simp [dSl, cI, cReln, cS, cStr, cTab, mkS] at hse2 ⊢
    simp [hse2, hlt, hnn, nin_set hnn, idsL, D.ids, hni, hwi, mkS, ids_mk (wt := (wtS wtI)) (marksS marksI).ids]
    refine back (i + 1) (by omega) (by omega) rfl (by simp <;> omega) ?_ (by simp)
    simp [mkAt_succ hlt, e1, cI, cReln, cS, cStr, cTab, dSl]
    first
    | exact ⟨rfl, by omega⟩
    | (refine ⟨?_, by omega⟩; simp [mkI, mkReln, mkStr, mkTab, wtI, wtReln, wtStr, wtTab, mkS, Int.add_assoc, show ∀ x : Int, 1 + (1 + x) = 2 + x from fun x => by omega])
  · have hn : i = xs.length := by omega
    subst hn
    simp [dSl, vendX]
    refine ⟨[0], fun γ hs' h1 h2 => ?_⟩
    simp [mkS, mkAt_all]
theorem simT_Db {a : Db} (hw : whDb a) (k : Int) : Sim (cDb a) (cDb (mkTDb a k)) := sim_mk marksTab hw (k)
theorem w_laws_markDatabase (a : Db) (k : Int) (h0 : 1 ≤ k) (h1 : k + wtTDb a ≤ 4611686018427387904) (hw : whDb a) (hl : okDb a) (hnd : (idsL (cDb a)).Nodup) :
   VX Tryz.prog 16 (idsL (cDb a)) [.agg ((cDb a).map V.d), .d (.int .i64 k)] none (fun _ r _ ws => r = .d (.int .i64 (k + wtTDb a)) ∧ ws = cDb (mkTDb a k)) := by
  refine VX.of E s16 (by kernel_rfl) Tryz.func16 (by rfl) (by kernel_rfl) (by simp [Tryz.f16]) (by simp [Tryz.f16]) s16_ok ?_ ?_ fun B hB => ?_
  · exact fun g hg => .inl (by simpa [idsVL, V.ids, idsVL_map_d] using hg)
  · exact fun cs h => nomatch h
  have hwt : wtTDb a = wtS wtTab a.tabs := rfl
  have hnd0 := hnd
  simp only [cDb, idsL_app] at hnd0
  have nd0 : (idsL (cS cTab a.tabs)).Nodup := hnd0
  simp [Tryz.f16, cDb, cS]
  refine call_x (E54) (by simp) (by simp) (by simp) (fun q hq => .inr ?_) (w_laws_markTableS a.tabs (k) (by omega) (by omega) (hw) (hl) (by rw [← idsL_cS]; exact nd0)) fun n0 hs0 r cs' ws hn0 hm0 hp hr hws => ?_
  · simp only [idsL_app, idsL, List.append_nil, List.nil_append, List.append_assoc, List.mem_append, cDb, cS] at hq ⊢
    first | (simp [hq]; done) | (simp [D.ids] at hq ⊢; grind)
  obtain ⟨rfl, rfl⟩ := hp
  simp at hn0
  have hre0 : reL (phi ((dSl cTab a.tabs).ids) [dSl cTab (mkS (mkTab) (wtTab) a.tabs (k))]) (cS cTab a.tabs) = some (cS cTab (mkS (mkTab) (wtTab) a.tabs (k))) := by
    have := re_sim (sim_mk marksTab hw (k)) ((marksS marksTab).ids _ _) nd0
    rw [idsL_cS] at this
    exact this
  replace hre0 := reVL_map hre0
  simp only [cDb, cS, List.cons_append, List.nil_append, List.map_cons, List.map_nil, reVL_cons, reVL_nil, List.cons.injEq, and_true, reV_int, reV_str, true_and] at hre0
  simp [hre0, cDb, cS]
  simp [vendX]
  refine ⟨[0], fun γ hs' h1 h2 => ?_⟩
  simp [isD, dD, hwt, mkTDb, cDb, cS, reD]
  try omega
theorem simT_Delta {a : Delta} (hw : whDelta a) (k : Int) : Sim (cDelta a) (cDelta (mkTDelta a k)) := ((Sim.leaf (by simp [D.ids]) Sim.nil).app (simT_Reln hw.2.1 (k))).app (simT_Reln hw.2.2 (k + wtTReln a.ins))
theorem w_laws_markDelta (a : Delta) (k : Int) (h0 : 1 ≤ k) (h1 : k + wtTDelta a ≤ 4611686018427387904) (hw : whDelta a) (hl : okDelta a) (hnd : (idsL (cDelta a)).Nodup) :
   VX Tryz.prog 26 (idsL (cDelta a)) [.agg ((cDelta a).map V.d), .d (.int .i64 k)] none (fun _ r _ ws => r = .d (.int .i64 (k + wtTDelta a)) ∧ ws = cDelta (mkTDelta a k)) := by
  refine VX.of E s26 (by kernel_rfl) Tryz.func26 (by rfl) (by kernel_rfl) (by simp [Tryz.f26]) (by simp [Tryz.f26]) s26_ok ?_ ?_ fun B hB => ?_
  · exact fun g hg => .inl (by simpa [idsVL, V.ids, idsVL_map_d] using hg)
  · exact fun cs h => nomatch h
  have hwt : wtTDelta a = wtTReln a.ins + wtTReln a.del := rfl
  have hnd0 := hnd
  simp only [cDelta, idsL_app] at hnd0
  have nd0 : (idsL (cStr a.name)).Nodup := nd_left (nd_left (hnd0))
  have nd1 : (idsL (cReln a.ins)).Nodup := nd_right (nd_left (hnd0))
  have nd2 : (idsL (cReln a.del)).Nodup := nd_right (hnd0)
  have dj0_1 : ∀ g ∈ idsL (cStr a.name), g ∉ idsL (cReln a.ins) := fun g hg => nd_disj (nd_left (hnd0)) g (hg)
  have dj0_2 : ∀ g ∈ idsL (cStr a.name), g ∉ idsL (cReln a.del) := fun g hg => nd_disj (hnd0) g (List.mem_append_left _ (hg))
  have dj1_2 : ∀ g ∈ idsL (cReln a.ins), g ∉ idsL (cReln a.del) := fun g hg => nd_disj (hnd0) g (List.mem_append_right _ hg)
  simp [Tryz.f26, cDelta, cI, cReln, cS, cStr]
  refine call_x (E68) (by simp) (by simp) (by simp) (fun q hq => .inr ?_) (w_laws_markRelation a.ins (k) (by omega) (by omega) (hw.2.1) (hl.2.1) nd1) fun n0 hs0 r cs' ws hn0 hm0 hp hr hws => ?_
  · simp only [idsL_app, idsL, List.append_nil, List.nil_append, List.append_assoc, List.mem_append, cDelta, cI, cReln, cS, cStr] at hq ⊢
    first | (simp [hq]; done) | (simp [D.ids] at hq ⊢; grind)
  obtain ⟨rfl, rfl⟩ := hp
  simp at hn0
  have hre0 : reL (phi (idsL (cReln a.ins)) (cReln (mkTReln a.ins (k)))) (cReln a.ins) = some (cReln (mkTReln a.ins (k))) := re_sim (simT_Reln hw.2.1 (k)) (marksTReln.ids _ _) nd1
  have ho0_2 : reL (phi (idsL (cReln a.ins)) (cReln (mkTReln a.ins (k)))) (cReln a.del) = some (cReln a.del) := re_same fun g hg => by
    skip
    skip
    exact dj1_2 g hg
  replace hre0 := reVL_map hre0
  replace ho0_2 := reVL_map ho0_2
  simp only [cDelta, cI, cReln, cS, cStr, List.cons_append, List.nil_append, List.map_cons, List.map_nil, reVL_cons, reVL_nil, List.cons.injEq, and_true, reV_int, reV_str, true_and, mkTReln] at hre0 ho0_2
  simp [hre0, ho0_2, cDelta, cI, cReln, cS, cStr, mkTReln]
  refine call_x (E68) (by simp) (by simp) (by simp) (fun q hq => .inr ?_) (w_laws_markRelation a.del (k + wtTReln a.ins) (by omega) (by omega) (hw.2.2) (hl.2.2) nd2) fun n1 hs1 r cs' ws hn1 hm1 hp hr hws => ?_
  · simp only [idsL_app, idsL, List.append_nil, List.nil_append, List.append_assoc, List.mem_append, cDelta, cI, cReln, cS, cStr] at hq ⊢
    first | (simp [hq]; done) | (simp [D.ids] at hq ⊢; grind)
  obtain ⟨rfl, rfl⟩ := hp
  simp at hn1
  have hre1 : reL (phi (idsL (cReln a.del)) (cReln (mkTReln a.del (k + wtTReln a.ins)))) (cReln a.del) = some (cReln (mkTReln a.del (k + wtTReln a.ins))) := re_sim (simT_Reln hw.2.2 (k + wtTReln a.ins)) (marksTReln.ids _ _) nd2
  have ho1_1 : reL (phi (idsL (cReln a.del)) (cReln (mkTReln a.del (k + wtTReln a.ins)))) (cReln (mkTReln a.ins (k))) = some (cReln (mkTReln a.ins (k))) := re_same fun g hg => by
    skip
    rw [marksTReln.ids]
    exact (fun h => dj1_2 g h hg)
  replace hre1 := reVL_map hre1
  replace ho1_1 := reVL_map ho1_1
  simp only [cDelta, cI, cReln, cS, cStr, List.cons_append, List.nil_append, List.map_cons, List.map_nil, reVL_cons, reVL_nil, List.cons.injEq, and_true, reV_int, reV_str, true_and, mkTReln] at hre1 ho1_1
  simp [hre1, ho1_1, cDelta, cI, cReln, cS, cStr, mkTReln]
  simp [vendX]
  refine ⟨[0], fun γ hs' h1 h2 => ?_⟩
  simp [isD, dD, hwt, mkTDelta, mkTReln, cDelta, cI, cReln, cS, cStr, reD]
  try omega
theorem w_laws_markDeltaS (a : Sl (Delta)) (k : Int) (h0 : 1 ≤ k) (h1 : k + wtS wtDelta a ≤ 4611686018427387904) (hw : whS whDelta a) (hl : okS okDelta a) (hnd : (dSl cDelta a).ids.Nodup) :
   VX Tryz.prog 38 (dSl cDelta a).ids [.d (dSl cDelta a), .d (.int .i64 k)] none (fun _ r _ ws => r = .d (.int .i64 (k + wtS wtDelta a)) ∧ ws = [dSl cDelta (mkS (mkDelta) (wtDelta) a k)]) := by
  refine VX.of E s38 (by kernel_rfl) Tryz.func38 (by rfl) (by kernel_rfl) (by simp [Tryz.f38]) (by simp [Tryz.f38]) s38_ok ?_ ?_ fun B hB => ?_
  · exact fun g hg => .inl (by simpa using hg)
  · exact fun cs h => nomatch h
  obtain ⟨id, T, xs⟩ := a
  have hl1 := hl.1
  simp only [maxLen] at hl1
  have hwt : wtS wtDelta (⟨id, T, xs⟩ : Sl (Delta)) = sumW wtDelta xs := rfl
  rw [hwt] at h1 ⊢
  simp [Tryz.f38]
  refine loop_rule (X := Nat) (fun i => i ≤ xs.length) (fun i => [(0, .d (dSl cDelta ⟨id, T, mkAt mkDelta wtDelta xs k i⟩)), (1, .d (.int .i64 (k + sumW wtDelta (xs.take i)))), (5, .d (.int .i64 i))]) (fun _ => []) (fun i => xs.length - i) 0 (by simp) (by simp) (by simp) ?_
  intro i hs t m hi hh
  by_cases hlt : i < xs.length
  · have hwi := wr1 (i := i) (by omega)
    have e1 := sumW_succ wtDelta hlt
    have e2 := sumW_le wtDelta xs (i + 1)
    have hmem : xs[i] ∈ xs := List.getElem_mem _
    have hwx : wtDelta xs[i] = 1 + 1 + wtS (wtS wtI) xs[i].ins.rows + 1 + wtS (wtS wtI) xs[i].del.rows := by simp only [wtDelta, wtI, wtReln, wtStr] <;> omega
    obtain ⟨g, hg, T', hT⟩ := hw.1.id hlt
    simp only at hg hT
    subst hg hT
    have hnd2 := sl_nd hnd
    have hnn : g ∉ idsLL ((mkAt mkDelta wtDelta xs k i).map cDelta) := by rw [ids_mkAt marksDelta.ids]; exact hnd2.2 g rfl
    have hni : g ∉ idsL (cDelta xs[i]) := fun hin => hnd2.2 g rfl (idsLL_map_mem.2 ⟨_, hmem, hin⟩)
    have hne := elem_nd hnd2.1 hlt
    have hni0 := hni
    have hne0 := hne
    have hap : ∀ W : List Nat, (∀ q ∈ W, q ∈ idsL (cDelta xs[i])) → ∀ ws (j : Nat) (e : List D), j ≠ i → ((mkAt mkDelta wtDelta xs k i).map cDelta)[j]? = some e → ∀ q ∈ idsL e, phi W ws q = none := by
      intro W hW ws
      exact nd_mapD (by rw [ids_mkAt marksDelta.ids]; exact hnd2.1) (i := i) (by simpa using hlt) (by simpa using hW) ws
    simp only [cDelta, cI, cReln, cS, cStr, idsL_app, idsL, D.ids, dSl, List.append_nil, List.nil_append, List.cons_append, List.mem_append, not_or, List.append_assoc] at hni hne
    simp [dSl, hlt]
    have hk0 : IntKind.i64.wrap (k + sumW wtDelta (xs.take i) + 1) = k + sumW wtDelta (xs.take i) + 1 := wrap64_of (by omega) (by omega)
    refine call_pure (w_laws_markText _ (by omega) (by omega)) rfl (by simp) rfl fun hs0 hh0 => ?_
    simp at hh0
    simp [dSl, hlt, cDelta, cI, cReln, cS, cStr, hnn, nin_set hnn, idsL, D.ids, hni, hk0, hwi, ids_mk (wt := (wtS wtI)) (marksS marksI).ids]
    have hk1 : IntKind.i64.wrap (k + sumW wtDelta (xs.take i) + 1 + 1) = k + sumW wtDelta (xs.take i) + 1 + 1 := wrap64_of (by omega) (by omega)
    simp [dSl, hlt, cDelta, cI, cReln, cS, cStr, hnn, nin_set hnn, idsL, D.ids, hni, hk1, hwi, ids_mk (wt := (wtS wtI)) (marksS marksI).ids]
    have hx2 : dSl (cS cI) xs[i].ins.rows ∈ cDelta xs[i] := by simp [cDelta, cI, cReln, cS, cStr]
    refine call_x (E69) (by simp [dSl]) (by simp) (by simp) (fun q hq => .inr ?_) (w_laws_markIntSS xs[i].ins.rows (k + sumW wtDelta (xs.take i) + 1 + 1) (by omega) (by omega) ((hw.2 _ hmem).2.1.2) ((hl.2 _ hmem).2.1.2) (nd_mem hne0 hx2)) fun n2 hs2 r cs' ws hn2 hm2 hp hr hws => ?_
    · exact elem_ids (s := ⟨some g, some T', xs⟩) (c := cDelta) (i := i) hlt (mem_idsL hx2 hq)
    obtain ⟨rfl, rfl⟩ := hp
    simp at hn2
    have hre2 : reL (phi (dSl (cS cI) xs[i].ins.rows).ids [dSl (cS cI) (mkS (mkS (mkI) (wtI)) (wtS wtI) xs[i].ins.rows (k + sumW wtDelta (xs.take i) + 1 + 1))]) [D.str (mtext (k + sumW wtDelta (xs.take i))), D.int .i64 (k + sumW wtDelta (xs.take i) + 1), dSl (cS cI) xs[i].ins.rows, D.int .i64 xs[i].del.ar, dSl (cS cI) xs[i].del.rows] = some [D.str (mtext (k + sumW wtDelta (xs.take i))), D.int .i64 (k + sumW wtDelta (xs.take i) + 1), dSl (cS cI) (mkS (mkS (mkI) (wtI)) (wtS wtI) xs[i].ins.rows (k + sumW wtDelta (xs.take i) + 1 + 1)), D.int .i64 xs[i].del.ar, dSl (cS cI) xs[i].del.rows] := reL_cons_iff.2 ⟨rfl, reL_cons_iff.2 ⟨rfl, reL_cons_iff.2 ⟨re_root (marksS marksI).len ((hw.2 _ hmem).2.1.2).1 (by simp) (fun g hg => mem_slids hg) [], reL_cons_iff.2 ⟨rfl, reL_cons_iff.2 ⟨reD_id _ (fun g hg => phi_out fun hin => by exact nd_pair hne0 (by simp [cDelta, cI, cReln, cS, cStr] : (cDelta xs[i])[2]? = some _) (by simp [cDelta, cI, cReln, cS, cStr] : (cDelta xs[i])[4]? = some _) (by omega) g hin hg), rfl⟩⟩⟩⟩⟩
    have hse2 := re_elemD (g := g) (T := some T') (es := (mkAt mkDelta wtDelta xs k i).map cDelta) (phi_out (W := (dSl (cS cI) xs[i].ins.rows).ids) (ws := [dSl (cS cI) (mkS (mkS (mkI) (wtI)) (wtS wtI) xs[i].ins.rows (k + sumW wtDelta (xs.take i) + 1 + 1))]) (g := g) (fun h => hni0 (mem_idsL hx2 h))) hre2 (hap _ (fun q hq => mem_idsL hx2 hq) _)
    simp [dSl, cDelta, cI, cReln, cS, cStr, mkS] at hse2 ⊢
    simp [hse2, hlt, hnn, nin_set hnn, idsL, D.ids, hni, hwi, mkS, ids_mk (wt := (wtS wtI)) (marksS marksI).ids]
    have hk3 : IntKind.i64.wrap (k + sumW wtDelta (xs.take i) + 1 + 1 + wtS (wtS wtI) xs[i].ins.rows + 1) = k + sumW wtDelta (xs.take i) + 1 + 1 + wtS (wtS wtI) xs[i].ins.rows + 1 := wrap64_of (by omega) (by omega)
    simp [dSl, hlt, cDelta, cI, cReln, cS, cStr, hnn, nin_set hnn, idsL, D.ids, hni, hk3, hwi, ids_mk (wt := (wtS wtI)) (marksS marksI).ids]
    have hx4 : dSl (cS cI) xs[i].del.rows ∈ cDelta xs[i] := by simp [cDelta, cI, cReln, cS, cStr]
    refine call_x (E69) (by simp [dSl]) (by simp) (by simp) (fun q hq => .inr ?_) (w_laws_markIntSS xs[i].del.rows (k + sumW wtDelta (xs.take i) + 1 + 1 + wtS (wtS wtI) xs[i].ins.rows + 1) (by omega) (by omega) ((hw.2 _ hmem).2.2.2) ((hl.2 _ hmem).2.2.2) (nd_mem hne0 hx4)) fun n4 hs4 r cs' ws hn4 hm4 hp hr hws => ?_
    · exact elem_ids (s := ⟨some g, some T', xs⟩) (c := cDelta) (i := i) hlt (mem_idsL hx4 hq)
    obtain ⟨rfl, rfl⟩ := hp
    simp at hn4
    have hre4 : reL (phi (dSl (cS cI) xs[i].del.rows).ids [dSl (cS cI) (mkS (mkS (mkI) (wtI)) (wtS wtI) xs[i].del.rows (k + sumW wtDelta (xs.take i) + 1 + 1 + wtS (wtS wtI) xs[i].ins.rows + 1))]) [D.str (mtext (k + sumW wtDelta (xs.take i))), D.int .i64 (k + sumW wtDelta (xs.take i) + 1), dSl (cS cI) (mkS (mkS (mkI) (wtI)) (wtS wtI) xs[i].ins.rows (k + sumW wtDelta (xs.take i) + 1 + 1)), D.int .i64 (k + sumW wtDelta (xs.take i) + 1 + 1 + wtS (wtS wtI) xs[i].ins.rows), dSl (cS cI) xs[i].del.rows] = some [D.str (mtext (k + sumW wtDelta (xs.take i))), D.int .i64 (k + sumW wtDelta (xs.take i) + 1), dSl (cS cI) (mkS (mkS (mkI) (wtI)) (wtS wtI) xs[i].ins.rows (k + sumW wtDelta (xs.take i) + 1 + 1)), D.int .i64 (k + sumW wtDelta (xs.take i) + 1 + 1 + wtS (wtS wtI) xs[i].ins.rows), dSl (cS cI) (mkS (mkS (mkI) (wtI)) (wtS wtI) xs[i].del.rows (k + sumW wtDelta (xs.take i) + 1 + 1 + wtS (wtS wtI) xs[i].ins.rows + 1))] := reL_cons_iff.2 ⟨rfl, reL_cons_iff.2 ⟨rfl, reL_cons_iff.2 ⟨reD_id _ (fun g hg => phi_out fun hin => by rw [ids_mkS (marksS marksI)] at hg; exact nd_pair hne0 (by simp [cDelta, cI, cReln, cS, cStr] : (cDelta xs[i])[2]? = some _) (by simp [cDelta, cI, cReln, cS, cStr] : (cDelta xs[i])[4]? = some _) (by omega) g hg hin), reL_cons_iff.2 ⟨rfl, reL_cons_iff.2 ⟨re_root (marksS marksI).len ((hw.2 _ hmem).2.2.2).1 (by simp) (fun g hg => mem_slids hg) [], rfl⟩⟩⟩⟩⟩
    have hse4 := re_elemD (g := g) (T := some T') (es := (mkAt mkDelta wtDelta xs k i).map cDelta) (phi_out (W := (dSl (cS cI) xs[i].del.rows).ids) (ws := [dSl (cS cI) (mkS (mkS (mkI) (wtI)) (wtS wtI) xs[i].del.rows (k + sumW wtDelta (xs.take i) + 1 + 1 + wtS (wtS wtI) xs[i].ins.rows + 1))]) (g := g) (fun h => hni0 (mem_idsL hx4 h))) hre4 (hap _ (fun q hq => mem_idsL hx4 hq) _)
    simp [dSl, cDelta, cI, cReln, cS, cStr, mkS] at hse4 ⊢
    simp [hse4, hlt, hnn, nin_set hnn, idsL, D.ids, hni, hwi, mkS, ids_mk (wt := (wtS wtI)) (marksS marksI).ids]
    refine back (i + 1) (by omega) (by omega) rfl (by simp <;> omega) ?_ (by simp)
    simp [mkAt_succ hlt, e1, cDelta, cI, cReln, cS, cStr, dSl]
    first
    | exact ⟨rfl, by omega⟩
    | (refine ⟨?_, by omega⟩; simp [mkDelta, mkI, mkReln, mkStr, wtDelta, wtI, wtReln, wtStr, mkS, Int.add_assoc, show ∀ x : Int, 1 + (1 + x) = 2 + x from fun x => by omega])
  · have hn : i = xs.length := by omega
    subst hn
    simp [dSl, vendX]
    refine ⟨[0], fun γ hs' h1 h2 => ?_⟩
    simp [mkS, mkAt_all]
theorem simT_Cnt {a : Cnt} (hw : whCnt a) (k : Int) : Sim (cCnt a) (cCnt (mkTCnt a k)) := ((Sim.leaf (by simp [D.ids]) Sim.nil).app (sim_mk (marksS marksI) hw.2.1 (k))).app (sim_mk marksI hw.2.2 (k + wtS (wtS wtI) a.rows))
theorem w_laws_markCountedRelation (a : Cnt) (k : Int) (h0 : 1 ≤ k) (h1 : k + wtTCnt a ≤ 4611686018427387904) (hw : whCnt a) (hl : okCnt a) (hnd : (idsL (cCnt a)).Nodup) :
   VX Tryz.prog 27 (idsL (cCnt a)) [.agg ((cCnt a).map V.d), .d (.int .i64 k)] none (fun _ r _ ws => r = .d (.int .i64 (k + wtTCnt a)) ∧ ws = cCnt (mkTCnt a k)) := by
  refine VX.of E s27 (by kernel_rfl) Tryz.func27 (by rfl) (by kernel_rfl) (by simp [Tryz.f27]) (by simp [Tryz.f27]) s27_ok ?_ ?_ fun B hB => ?_
  · exact fun g hg => .inl (by simpa [idsVL, V.ids, idsVL_map_d] using hg)
  · exact fun cs h => nomatch h
  have hwt : wtTCnt a = wtS (wtS wtI) a.rows + wtS wtI a.cs := rfl
  have hnd0 := hnd
  simp only [cCnt, idsL_app] at hnd0
  have nd0 : (idsL (cI a.ar)).Nodup := nd_left (nd_left (hnd0))
  have nd1 : (idsL (cS (cS cI) a.rows)).Nodup := nd_right (nd_left (hnd0))
  have nd2 : (idsL (cS cI a.cs)).Nodup := nd_right (hnd0)
  have dj0_1 : ∀ g ∈ idsL (cI a.ar), g ∉ idsL (cS (cS cI) a.rows) := fun g hg => nd_disj (nd_left (hnd0)) g (hg)
  have dj0_2 : ∀ g ∈ idsL (cI a.ar), g ∉ idsL (cS cI a.cs) := fun g hg => nd_disj (hnd0) g (List.mem_append_left _ (hg))
  have dj1_2 : ∀ g ∈ idsL (cS (cS cI) a.rows), g ∉ idsL (cS cI a.cs) := fun g hg => nd_disj (hnd0) g (List.mem_append_right _ hg)
  simp [Tryz.f27, cCnt, cI, cS]
  refine call_x (E69) (by simp) (by simp) (by simp) (fun q hq => .inr ?_) (w_laws_markIntSS a.rows (k) (by omega) (by omega) (hw.2.1) (hl.2.1) (by rw [← idsL_cS]; exact nd1)) fun n0 hs0 r cs' ws hn0 hm0 hp hr hws => ?_
  · simp only [idsL_app, idsL, List.append_nil, List.nil_append, List.append_assoc, List.mem_append, cCnt, cI, cS] at hq ⊢
    first | (simp [hq]; done) | (simp [D.ids] at hq ⊢; grind)
  obtain ⟨rfl, rfl⟩ := hp
  simp at hn0
  have hre0 : reL (phi ((dSl (cS cI) a.rows).ids) [dSl (cS cI) (mkS (mkS (mkI) (wtI)) (wtS wtI) a.rows (k))]) (cS (cS cI) a.rows) = some (cS (cS cI) (mkS (mkS (mkI) (wtI)) (wtS wtI) a.rows (k))) := by
    have := re_sim (sim_mk (marksS marksI) hw.2.1 (k)) ((marksS (marksS marksI)).ids _ _) nd1
    rw [idsL_cS] at this
    exact this
  have ho0_2 : reL (phi ((dSl (cS cI) a.rows).ids) [dSl (cS cI) (mkS (mkS (mkI) (wtI)) (wtS wtI) a.rows (k))]) (cS cI a.cs) = some (cS cI a.cs) := re_same fun g hg => by
    rw [← idsL_cS] at hg
    skip
    exact dj1_2 g hg
  replace hre0 := reVL_map hre0
  replace ho0_2 := reVL_map ho0_2
  simp only [cCnt, cI, cS, List.cons_append, List.nil_append, List.map_cons, List.map_nil, reVL_cons, reVL_nil, List.cons.injEq, and_true, reV_int, reV_str, true_and] at hre0 ho0_2
  simp [hre0, ho0_2, cCnt, cI, cS]
  refine call_x (E56) (by simp) (by simp) (by simp) (fun q hq => .inr ?_) (w_laws_markIntS a.cs (k + wtS (wtS wtI) a.rows) (by omega) (by omega) (hw.2.2) (hl.2.2) (by rw [← idsL_cS]; exact nd2)) fun n1 hs1 r cs' ws hn1 hm1 hp hr hws => ?_
  · simp only [idsL_app, idsL, List.append_nil, List.nil_append, List.append_assoc, List.mem_append, cCnt, cI, cS] at hq ⊢
    first | (simp [hq]; done) | (simp [D.ids] at hq ⊢; grind)
  obtain ⟨rfl, rfl⟩ := hp
  simp at hn1
  have hre1 : reL (phi ((dSl cI a.cs).ids) [dSl cI (mkS (mkI) (wtI) a.cs (k + wtS (wtS wtI) a.rows))]) (cS cI a.cs) = some (cS cI (mkS (mkI) (wtI) a.cs (k + wtS (wtS wtI) a.rows))) := by
    have := re_sim (sim_mk marksI hw.2.2 (k + wtS (wtS wtI) a.rows)) ((marksS marksI).ids _ _) nd2
    rw [idsL_cS] at this
    exact this
  have ho1_1 : reL (phi ((dSl cI a.cs).ids) [dSl cI (mkS (mkI) (wtI) a.cs (k + wtS (wtS wtI) a.rows))]) (cS (cS cI) (mkS (mkS (mkI) (wtI)) (wtS wtI) a.rows (k))) = some (cS (cS cI) (mkS (mkS (mkI) (wtI)) (wtS wtI) a.rows (k))) := re_same fun g hg => by
    rw [← idsL_cS] at hg
    rw [(marksS (marksS marksI)).ids]
    exact (fun h => dj1_2 g h hg)
  replace hre1 := reVL_map hre1
  replace ho1_1 := reVL_map ho1_1
  simp only [cCnt, cI, cS, List.cons_append, List.nil_append, List.map_cons, List.map_nil, reVL_cons, reVL_nil, List.cons.injEq, and_true, reV_int, reV_str, true_and] at hre1 ho1_1
  simp [hre1, ho1_1, cCnt, cI, cS]
  simp [vendX]
  refine ⟨[0], fun γ hs' h1 h2 => ?_⟩
  simp [isD, dD, hwt, mkTCnt, cCnt, cI, cS, reD]
  try omega
theorem w_laws_markAtomS (a : Sl (Atom)) (k : Int) (h0 : 1 ≤ k) (h1 : k + wtS wtAtom a ≤ 4611686018427387904) (hw : whS whAtom a) (hl : okS okAtom a) (hnd : (dSl cAtom a).ids.Nodup) :
   VX Tryz.prog 55 (dSl cAtom a).ids [.d (dSl cAtom a), .d (.int .i64 k)] none (fun _ r _ ws => r = .d (.int .i64 (k + wtS wtAtom a)) ∧ ws = [dSl cAtom (mkS (mkAtom) (wtAtom) a k)]) := by
  refine VX.of E s55 (by kernel_rfl) Tryz.func55 (by rfl) (by kernel_rfl) (by simp [Tryz.f55]) (by simp [Tryz.f55]) s55_ok ?_ ?_ fun B hB => ?_
  · exact fun g hg => .inl (by simpa using hg)
  · exact fun cs h => nomatch h
  obtain ⟨id, T, xs⟩ := a
  have hl1 := hl.1
  simp only [maxLen] at hl1
  have hwt : wtS wtAtom (⟨id, T, xs⟩ : Sl (Atom)) = sumW wtAtom xs := rfl
  rw [hwt] at h1 ⊢
  simp [Tryz.f55]
  refine loop_rule (X := Nat) (fun i => i ≤ xs.length) (fun i => [(0, .d (dSl cAtom ⟨id, T, mkAt mkAtom wtAtom xs k i⟩)), (1, .d (.int .i64 (k + sumW wtAtom (xs.take i)))), (5, .d (.int .i64 i))]) (fun _ => []) (fun i => xs.length - i) 0 (by simp) (by simp) (by simp) ?_
  intro i hs t m hi hh
  by_cases hlt : i < xs.length
  · have hwi := wr1 (i := i) (by omega)
    have e1 := sumW_succ wtAtom hlt
    have e2 := sumW_le wtAtom xs (i + 1)
    have hmem : xs[i] ∈ xs := List.getElem_mem _
    have hwx : wtAtom xs[i] = 1 + wtS wtI xs[i].vars := by simp only [wtAtom, wtStr] <;> omega
    obtain ⟨g, hg, T', hT⟩ := hw.1.id hlt
    simp only at hg hT
    subst hg hT
    have hnd2 := sl_nd hnd
    have hnn : g ∉ idsLL ((mkAt mkAtom wtAtom xs k i).map cAtom) := by rw [ids_mkAt marksAtom.ids]; exact hnd2.2 g rfl
    have hni : g ∉ idsL (cAtom xs[i]) := fun hin => hnd2.2 g rfl (idsLL_map_mem.2 ⟨_, hmem, hin⟩)
    have hne := elem_nd hnd2.1 hlt
    have hni0 := hni
    have hne0 := hne
    have hap : ∀ W : List Nat, (∀ q ∈ W, q ∈ idsL (cAtom xs[i])) → ∀ ws (j : Nat) (e : List D), j ≠ i → ((mkAt mkAtom wtAtom xs k i).map cAtom)[j]? = some e → ∀ q ∈ idsL e, phi W ws q = none := by
      intro W hW ws
      exact nd_mapD (by rw [ids_mkAt marksAtom.ids]; exact hnd2.1) (i := i) (by simpa using hlt) (by simpa using hW) ws
    simp only [cAtom, cS, cStr, idsL_app, idsL, D.ids, dSl, List.append_nil, List.nil_append, List.cons_append, List.mem_append, not_or, List.append_assoc] at hni hne
    simp [dSl, hlt]
    have hk0 : IntKind.i64.wrap (k + sumW wtAtom (xs.take i) + 1) = k + sumW wtAtom (xs.take i) + 1 := wrap64_of (by omega) (by omega)
    refine call_pure (w_laws_markText _ (by omega) (by omega)) rfl (by simp) rfl fun hs0 hh0 => ?_
    simp at hh0
    simp [dSl, hlt, cAtom, cS, cStr, hnn, nin_set hnn, idsL, D.ids, hni, hk0, hwi, ids_mk (wt := wtI) marksI.ids]
    have hx1 : dSl cI xs[i].vars ∈ cAtom xs[i] := by simp [cAtom, cS, cStr]
    refine call_x (E56) (by simp [dSl]) (by simp) (by simp) (fun q hq => .inr ?_) (w_laws_markIntS xs[i].vars (k + sumW wtAtom (xs.take i) + 1) (by omega) (by omega) ((hw.2 _ hmem).2) ((hl.2 _ hmem).2) (nd_mem hne0 hx1)) fun n1 hs1 r cs' ws hn1 hm1 hp hr hws => ?_
    · exact elem_ids (s := ⟨some g, some T', xs⟩) (c := cAtom) (i := i) hlt (mem_idsL hx1 hq)
    obtain ⟨rfl, rfl⟩ := hp
    simp at hn1
    have hre1 : reL (phi (dSl cI xs[i].vars).ids [dSl cI (mkS (mkI) (wtI) xs[i].vars (k + sumW wtAtom (xs.take i) + 1))]) [D.str (mtext (k + sumW wtAtom (xs.take i))), dSl cI xs[i].vars] = some [D.str (mtext (k + sumW wtAtom (xs.take i))), dSl cI (mkS (mkI) (wtI) xs[i].vars (k + sumW wtAtom (xs.take i) + 1))] := reL_cons_iff.2 ⟨rfl, reL_cons_iff.2 ⟨re_root marksI.len ((hw.2 _ hmem).2).1 (by simp) (fun g hg => mem_slids hg) [], rfl⟩⟩
    have hse1 := re_elemD (g := g) (T := some T') (es := (mkAt mkAtom wtAtom xs k i).map cAtom) (phi_out (W := (dSl cI xs[i].vars).ids) (ws := [dSl cI (mkS (mkI) (wtI) xs[i].vars (k + sumW wtAtom (xs.take i) + 1))]) (g := g) (fun h => hni0 (mem_idsL hx1 h))) hre1 (hap _ (fun q hq => mem_idsL hx1 hq) _)
    simp [dSl, cAtom, cS, cStr, mkS] at hse1 ⊢
    simp [hse1, hlt, hnn, nin_set hnn, idsL, D.ids, hni, hwi, mkS, ids_mk (wt := wtI) marksI.ids]
    refine back (i + 1) (by omega) (by omega) rfl (by simp <;> omega) ?_ (by simp)
    simp [mkAt_succ hlt, e1, cAtom, cS, cStr, dSl]
    first
    | exact ⟨rfl, by omega⟩
    | (refine ⟨?_, by omega⟩; simp [mkAtom, mkStr, wtAtom, wtStr, mkS, Int.add_assoc, show ∀ x : Int, 1 + (1 + x) = 2 + x from fun x => by omega])
  · have hn : i = xs.length := by omega
    subst hn
    simp [dSl, vendX]
    refine ⟨[0], fun γ hs' h1 h2 => ?_⟩
    simp [mkS, mkAt_all]
theorem simT_Query {a : Query} (hw : whQuery a) (k : Int) : Sim (cQuery a) (cQuery (mkTQuery a k)) := ((Sim.leaf (by simp [D.ids]) Sim.nil).app (sim_mk marksAtom hw.2.1 (k))).app (sim_mk marksI hw.2.2 (k + wtS wtAtom a.atoms))
theorem w_laws_markQuery (a : Query) (k : Int) (h0 : 1 ≤ k) (h1 : k + wtTQuery a ≤ 4611686018427387904) (hw : whQuery a) (hl : okQuery a) (hnd : (idsL (cQuery a)).Nodup) :
   VX Tryz.prog 17 (idsL (cQuery a)) [.agg ((cQuery a).map V.d), .d (.int .i64 k)] none (fun _ r _ ws => r = .d (.int .i64 (k + wtTQuery a)) ∧ ws = cQuery (mkTQuery a k)) := by
  refine VX.of E s17 (by kernel_rfl) Tryz.func17 (by rfl) (by kernel_rfl) (by simp [Tryz.f17]) (by simp [Tryz.f17]) s17_ok ?_ ?_ fun B hB => ?_
  · exact fun g hg => .inl (by simpa [idsVL, V.ids, idsVL_map_d] using hg)
  · exact fun cs h => nomatch h
  have hwt : wtTQuery a = wtS wtAtom a.atoms + wtS wtI a.out := rfl
  have hnd0 := hnd
  simp only [cQuery, idsL_app] at hnd0
  have nd0 : (idsL (cI a.n)).Nodup := nd_left (nd_left (hnd0))
  have nd1 : (idsL (cS cAtom a.atoms)).Nodup := nd_right (nd_left (hnd0))
  have nd2 : (idsL (cS cI a.out)).Nodup := nd_right (hnd0)
  have dj0_1 : ∀ g ∈ idsL (cI a.n), g ∉ idsL (cS cAtom a.atoms) := fun g hg => nd_disj (nd_left (hnd0)) g (hg)
  have dj0_2 : ∀ g ∈ idsL (cI a.n), g ∉ idsL (cS cI a.out) := fun g hg => nd_disj (hnd0) g (List.mem_append_left _ (hg))
  have dj1_2 : ∀ g ∈ idsL (cS cAtom a.atoms), g ∉ idsL (cS cI a.out) := fun g hg => nd_disj (hnd0) g (List.mem_append_right _ hg)
  simp [Tryz.f17, cI, cQuery, cS]
  refine call_x (E55) (by simp) (by simp) (by simp) (fun q hq => .inr ?_) (w_laws_markAtomS a.atoms (k) (by omega) (by omega) (hw.2.1) (hl.2.1) (by rw [← idsL_cS]; exact nd1)) fun n0 hs0 r cs' ws hn0 hm0 hp hr hws => ?_
  · simp only [idsL_app, idsL, List.append_nil, List.nil_append, List.append_assoc, List.mem_append, cI, cQuery, cS] at hq ⊢
    first | (simp [hq]; done) | (simp [D.ids] at hq ⊢; grind)
  obtain ⟨rfl, rfl⟩ := hp
  simp at hn0
  have hre0 : reL (phi ((dSl cAtom a.atoms).ids) [dSl cAtom (mkS (mkAtom) (wtAtom) a.atoms (k))]) (cS cAtom a.atoms) = some (cS cAtom (mkS (mkAtom) (wtAtom) a.atoms (k))) := by
    have := re_sim (sim_mk marksAtom hw.2.1 (k)) ((marksS marksAtom).ids _ _) nd1
    rw [idsL_cS] at this
    exact this
  have ho0_2 : reL (phi ((dSl cAtom a.atoms).ids) [dSl cAtom (mkS (mkAtom) (wtAtom) a.atoms (k))]) (cS cI a.out) = some (cS cI a.out) := re_same fun g hg => by
    rw [← idsL_cS] at hg
    skip
    exact dj1_2 g hg
  replace hre0 := reVL_map hre0
  replace ho0_2 := reVL_map ho0_2
  simp only [cI, cQuery, cS, List.cons_append, List.nil_append, List.map_cons, List.map_nil, reVL_cons, reVL_nil, List.cons.injEq, and_true, reV_int, reV_str, true_and] at hre0 ho0_2
  simp [hre0, ho0_2, cI, cQuery, cS]
  refine call_x (E56) (by simp) (by simp) (by simp) (fun q hq => .inr ?_) (w_laws_markIntS a.out (k + wtS wtAtom a.atoms) (by omega) (by omega) (hw.2.2) (hl.2.2) (by rw [← idsL_cS]; exact nd2)) fun n1 hs1 r cs' ws hn1 hm1 hp hr hws => ?_
  · simp only [idsL_app, idsL, List.append_nil, List.nil_append, List.append_assoc, List.mem_append, cI, cQuery, cS] at hq ⊢
    first | (simp [hq]; done) | (simp [D.ids] at hq ⊢; grind)
  obtain ⟨rfl, rfl⟩ := hp
  simp at hn1
  have hre1 : reL (phi ((dSl cI a.out).ids) [dSl cI (mkS (mkI) (wtI) a.out (k + wtS wtAtom a.atoms))]) (cS cI a.out) = some (cS cI (mkS (mkI) (wtI) a.out (k + wtS wtAtom a.atoms))) := by
    have := re_sim (sim_mk marksI hw.2.2 (k + wtS wtAtom a.atoms)) ((marksS marksI).ids _ _) nd2
    rw [idsL_cS] at this
    exact this
  have ho1_1 : reL (phi ((dSl cI a.out).ids) [dSl cI (mkS (mkI) (wtI) a.out (k + wtS wtAtom a.atoms))]) (cS cAtom (mkS (mkAtom) (wtAtom) a.atoms (k))) = some (cS cAtom (mkS (mkAtom) (wtAtom) a.atoms (k))) := re_same fun g hg => by
    rw [← idsL_cS] at hg
    rw [(marksS marksAtom).ids]
    exact (fun h => dj1_2 g h hg)
  replace hre1 := reVL_map hre1
  replace ho1_1 := reVL_map ho1_1
  simp only [cI, cQuery, cS, List.cons_append, List.nil_append, List.map_cons, List.map_nil, reVL_cons, reVL_nil, List.cons.injEq, and_true, reV_int, reV_str, true_and] at hre1 ho1_1
  simp [hre1, ho1_1, cI, cQuery, cS]
  simp [vendX]
  refine ⟨[0], fun γ hs' h1 h2 => ?_⟩
  simp [isD, dD, hwt, mkTQuery, cI, cQuery, cS, reD]
  try omega
theorem simT_View {a : View} (hw : whView a) (k : Int) : Sim (cView a) (cView (mkTView a k)) := (simT_Query hw.1 (k)).app (simT_Cnt hw.2 (k + wtTQuery a.q))
theorem w_laws_markView (a : View) (k : Int) (h0 : 1 ≤ k) (h1 : k + wtTView a ≤ 4611686018427387904) (hw : whView a) (hl : okView a) (hnd : (idsL (cView a)).Nodup) :
   VX Tryz.prog 18 (idsL (cView a)) [.agg ((cView a).map V.d), .d (.int .i64 k)] none (fun _ r _ ws => r = .d (.int .i64 (k + wtTView a)) ∧ ws = cView (mkTView a k)) := by
  refine VX.of E s18 (by kernel_rfl) Tryz.func18 (by rfl) (by kernel_rfl) (by simp [Tryz.f18]) (by simp [Tryz.f18]) s18_ok ?_ ?_ fun B hB => ?_
  · exact fun g hg => .inl (by simpa [idsVL, V.ids, idsVL_map_d] using hg)
  · exact fun cs h => nomatch h
  have hwt : wtTView a = wtTQuery a.q + wtTCnt a.r := rfl
  have hnd0 := hnd
  simp only [cView, idsL_app] at hnd0
  have nd0 : (idsL (cQuery a.q)).Nodup := nd_left (hnd0)
  have nd1 : (idsL (cCnt a.r)).Nodup := nd_right (hnd0)
  have dj0_1 : ∀ g ∈ idsL (cQuery a.q), g ∉ idsL (cCnt a.r) := fun g hg => nd_disj (hnd0) g (hg)
  simp [Tryz.f18, cCnt, cI, cQuery, cS, cView]
  refine call_x (E17) (by simp) (by simp) (by simp) (fun q hq => .inr ?_) (w_laws_markQuery a.q (k) (by omega) (by omega) (hw.1) (hl.1) nd0) fun n0 hs0 r cs' ws hn0 hm0 hp hr hws => ?_
  · simp only [idsL_app, idsL, List.append_nil, List.nil_append, List.append_assoc, List.mem_append, cCnt, cI, cQuery, cS, cView] at hq ⊢
    first | (simp [hq]; done) | (simp [D.ids] at hq ⊢; grind)
  obtain ⟨rfl, rfl⟩ := hp
  simp at hn0
  have hre0 : reL (phi (idsL (cQuery a.q)) (cQuery (mkTQuery a.q (k)))) (cQuery a.q) = some (cQuery (mkTQuery a.q (k))) := re_sim (simT_Query hw.1 (k)) (marksTQuery.ids _ _) nd0
  have ho0_1 : reL (phi (idsL (cQuery a.q)) (cQuery (mkTQuery a.q (k)))) (cCnt a.r) = some (cCnt a.r) := re_same fun g hg => by
    skip
    skip
    exact dj0_1 g hg
  replace hre0 := reVL_map hre0
  replace ho0_1 := reVL_map ho0_1
  simp only [cCnt, cI, cQuery, cS, cView, List.cons_append, List.nil_append, List.map_cons, List.map_nil, reVL_cons, reVL_nil, List.cons.injEq, and_true, reV_int, reV_str, true_and, mkTCnt, mkTQuery] at hre0 ho0_1
  simp [hre0, ho0_1, cCnt, cI, cQuery, cS, cView, mkTCnt, mkTQuery]
  refine call_x (E27) (by simp) (by simp) (by simp) (fun q hq => .inr ?_) (w_laws_markCountedRelation a.r (k + wtTQuery a.q) (by omega) (by omega) (hw.2) (hl.2) nd1) fun n1 hs1 r cs' ws hn1 hm1 hp hr hws => ?_
  · simp only [idsL_app, idsL, List.append_nil, List.nil_append, List.append_assoc, List.mem_append, cCnt, cI, cQuery, cS, cView] at hq ⊢
    first | (simp [hq]; done) | (simp [D.ids] at hq ⊢; grind)
  obtain ⟨rfl, rfl⟩ := hp
  simp at hn1
  have hre1 : reL (phi (idsL (cCnt a.r)) (cCnt (mkTCnt a.r (k + wtTQuery a.q)))) (cCnt a.r) = some (cCnt (mkTCnt a.r (k + wtTQuery a.q))) := re_sim (simT_Cnt hw.2 (k + wtTQuery a.q)) (marksTCnt.ids _ _) nd1
  have ho1_0 : reL (phi (idsL (cCnt a.r)) (cCnt (mkTCnt a.r (k + wtTQuery a.q)))) (cQuery (mkTQuery a.q (k))) = some (cQuery (mkTQuery a.q (k))) := re_same fun g hg => by
    skip
    rw [marksTQuery.ids]
    exact (fun h => dj0_1 g h hg)
  replace hre1 := reVL_map hre1
  replace ho1_0 := reVL_map ho1_0
  simp only [cCnt, cI, cQuery, cS, cView, List.cons_append, List.nil_append, List.map_cons, List.map_nil, reVL_cons, reVL_nil, List.cons.injEq, and_true, reV_int, reV_str, true_and, mkTCnt, mkTQuery] at hre1 ho1_0
  simp [hre1, ho1_0, cCnt, cI, cQuery, cS, cView, mkTCnt, mkTQuery]
  simp [vendX]
  refine ⟨[0], fun γ hs' h1 h2 => ?_⟩
  simp [isD, dD, hwt, mkTView, mkTCnt, mkTQuery, cCnt, cI, cQuery, cS, cView, reD]
  try omega

end Go.Proofs.YtggbpdjjlgejmaaGreat


namespace Go.Proofs.YtggbpdjjlgejmaaGreat
open Go.Vs Go.Proofs Go
set_option maxRecDepth 100000
set_option maxHeartbeats 1000000

attribute [simp] plI_id plStr_id map_plI map_plStr pS cP cI cStr cU8 cB
theorem w_impl_within (n lo hi : Int) : VC Tryz.prog 139 [.d (.int .i64 n), .d (.int .i64 lo), .d (.int .i64 hi)] (fun _ r => r = .d (.bool (inR n lo hi))) := by
  refine VC.ofL EP s139 (by kernel_rfl) Tryz.func139 (by rfl) (by kernel_rfl) (by simp [Tryz.f139]) (by simp [Tryz.f139]) s139_ok fun B hl => ?_
  by_cases h : lo ≤ n
  · simp [Tryz.f139, inR, h]
  · simp [Tryz.f139, inR, h]
theorem w_spec_l1In (n lo hi : Int) : VC Tryz.prog 130 [.d (.int .i64 n), .d (.int .i64 lo), .d (.int .i64 hi)] (fun _ r => r = .d (.bool (inR n lo hi))) := by
  refine VC.ofL EP s130 (by kernel_rfl) Tryz.func130 (by rfl) (by kernel_rfl) (by simp [Tryz.f130]) (by simp [Tryz.f130]) s130_ok fun B hl => ?_
  by_cases h : lo ≤ n
  · simp [Tryz.f130, inR, h]
  · simp [Tryz.f130, inR, h]
theorem w_impl_AreValidValues (xs : List Int) : VC Tryz.prog 160 [.d (pS cI xs)] (fun _ r => r = .d (.bool (valsOk xs))) := by
  refine VC.ofL EP s160 (by kernel_rfl) Tryz.func160 (by rfl) (by kernel_rfl) (by simp [Tryz.f160]) (by simp [Tryz.f160]) s160_ok fun B hl => ?_
  simp [pS, maxLen] at hl
  simp [Tryz.f160, pS]
  refine loop_rule (X := Nat) (fun i => i ≤ xs.length ∧ (xs.take i).all (fun v => inR v 0 99) = true) (fun i => [(5, .d (.pl (xs.map cI))), (6, .d (.int .i64 xs.length)), (7, .d (.int .i64 i))]) (fun _ => []) (fun i => xs.length - i) 0 (by simp) (by simp) (by simp) ?_
  intro i hs t m hi hh
  by_cases hlt : i < xs.length
  · have hwi := wr1 (i := i) (by omega)
    have hst := all_step (p := fun v => inR v 0 99) hlt
    rw [hi.2, Bool.true_and] at hst
    have hbad : inR xs[i] 0 99 = false → valsOk xs = false := all_bad (p := fun v => inR v 0 99) hlt
    simp [hlt, cI]
    refine call_f (w_impl_within xs[i] 0 99) (by simp) rfl fun hs1 hh1 => ?_
    cases hc : inR xs[i] 0 99
    · simp [hbad hc]
    · simp [hwi]
      simp at hh1
      exact back (i + 1) ⟨by omega, List.all_eq_true.1 (hst.trans hc)⟩ (by omega) rfl (by simp <;> omega) (by simp) (by simp)
  · have hd : valsOk xs = true := all_done (by omega) hi.2
    simp [hlt, hd]

end Go.Proofs.YtggbpdjjlgejmaaGreat


namespace Go.Proofs.YtggbpdjjlgejmaaGreat
open Go.Vs Go.Proofs Go
set_option maxRecDepth 100000
set_option maxHeartbeats 1000000

theorem w_spec_AreValidValues (xs : List Int) : VC Tryz.prog 151 [.d (pS cI xs)] (fun _ r => r = .d (.bool (valsOk xs))) := by
  refine VC.ofL EP s151 (by kernel_rfl) Tryz.func151 (by rfl) (by kernel_rfl) (by simp [Tryz.f151]) (by simp [Tryz.f151]) s151_ok fun B hl => ?_
  simp [pS, maxLen] at hl
  simp [Tryz.f151, pS]
  refine loop_rule (X := Nat) (fun i => i ≤ xs.length ∧ (xs.take i).all (fun v => inR v 0 99) = true) (fun i => [(0, .d (.pl (xs.map cI))), (3, .d (.int .i64 i))]) (fun _ => []) (fun i => xs.length - i) 0 (by simp) (by simp) (by simp) ?_
  intro i hs t m hi hh
  by_cases hlt : i < xs.length
  · have hwi := wr1 (i := i) (by omega)
    have hst := all_step (p := fun v => inR v 0 99) hlt
    rw [hi.2, Bool.true_and] at hst
    have hbad : inR xs[i] 0 99 = false → valsOk xs = false := all_bad (p := fun v => inR v 0 99) hlt
    simp [hlt, cI]
    refine call_f (w_spec_l1In xs[i] 0 99) (by simp) rfl fun hs1 hh1 => ?_
    simp at hh1
    cases hc : inR xs[i] 0 99
    · simp [hbad hc]
    · simp [hwi]
      exact back (i + 1) ⟨by omega, List.all_eq_true.1 (hst.trans hc)⟩ (by omega) rfl (by simp <;> omega) (by simp) (by simp)
  · have hd : valsOk xs = true := all_done (by omega) hi.2
    simp [hlt, hd]
theorem w_spec_CompareRows (a b : List Int) : VC Tryz.prog 148 [.d (pS cI a), .d (pS cI b)] (fun _ r => r = .d (.int .i64 (cmpL a b))) := by
  refine VC.ofL EP s148 (by kernel_rfl) Tryz.func148 (by rfl) (by kernel_rfl) (by simp [Tryz.f148]) (by simp [Tryz.f148]) s148_ok fun B hl => ?_
  simp [pS, maxLen, cI] at hl
  simp [Tryz.f148, s148_4, s148_6, pS]
  refine loop_rule (X := Nat) (fun i => i ≤ a.length ∧ i ≤ b.length ∧ cmpL a b = cmpL (a.drop i) (b.drop i)) (fun i => [(0, .d (.pl (a.map cI))), (1, .d (.pl (b.map cI))), (5, .d (.int .i64 i))]) (fun _ => []) (fun i => a.length - i) 0 (by simp) (by simp) (by simp) ?_
  intro i hs t m hi hh
  by_cases hlt : i < a.length
  · by_cases hlb : i < b.length
    · have hwi := wr1 (i := i) (by omega)
      have hc := cmpL_drop hlt hlb
      rw [← hi.2.2] at hc
      by_cases h1 : a[i] < b[i]
      · simp [cI, s148_4, s148_6, hlt, hlb, h1, hc]
      · by_cases h2 : b[i] < a[i]
        · simp [cI, s148_4, s148_6, hlt, hlb, h1, h2, hc]
        · simp only [h1, h2, if_false] at hc
          simp [cI, s148_4, s148_6, hlt, hlb, h1, h2, hwi]
          exact back (i + 1) ⟨by omega, by omega, hc⟩ (by omega) rfl (by simp) (by simp) (by simp)
    · have he := cmpL_end hi.1 hi.2.1 (by omega)
      rw [← hi.2.2] at he
      by_cases h1 : a.length < b.length
      · simp [hlt, hlb, h1, he]
      · by_cases h2 : b.length < a.length <;> simp [hlt, hlb, h1, h2, he]
  · have he := cmpL_end hi.1 hi.2.1 (by omega)
    rw [← hi.2.2] at he
    by_cases h1 : a.length < b.length
    · simp [hlt, h1, he]
    · by_cases h2 : b.length < a.length <;> simp [hlt, h1, h2, he]
theorem w_impl_compareInts (x y : Int) : VC Tryz.prog 159 [.d (.int .i64 x), .d (.int .i64 y)] (fun _ r => r = .d (.int .i64 (if x < y then -1 else if y < x then 1 else 0))) := by
  refine VC.ofL EP s159 (by kernel_rfl) Tryz.func159 (by rfl) (by kernel_rfl) (by simp [Tryz.f159]) (by simp [Tryz.f159]) s159_ok fun B hl => ?_
  by_cases h1 : x < y
  · simp [Tryz.f159, h1]
  · by_cases h2 : y < x <;> simp [Tryz.f159, h1, h2]
theorem w_impl_CompareRows (a b : List Int) : VC Tryz.prog 137 [.d (pS cI a), .d (pS cI b)] (fun _ r => r = .d (.int .i64 (cmpL a b))) := by
  refine VC.ofL EP s137 (by kernel_rfl) Tryz.func137 (by rfl) (by kernel_rfl) (by simp [Tryz.f137]) (by simp [Tryz.f137]) s137_ok fun B hl => ?_
  simp [pS, maxLen, cI] at hl
  simp [Tryz.f137, s137_4, s137_5, pS]
  refine loop_rule (X := Nat) (fun i => i ≤ a.length ∧ i ≤ b.length ∧ cmpL a b = cmpL (a.drop i) (b.drop i)) (fun i => [(0, .d (.pl (a.map cI))), (1, .d (.pl (b.map cI))), (5, .d (.int .i64 i))]) (fun _ => []) (fun i => a.length - i) 0 (by simp) (by simp) (by simp) ?_
  intro i hs t m hi hh
  by_cases hlt : i < a.length ∧ i < b.length
  · obtain ⟨hlt, hlb⟩ := hlt
    have hwi := wr1 (i := i) (by omega)
    have hc := cmpL_drop hlt hlb
    rw [← hi.2.2] at hc
    by_cases he : a[i] = b[i]
    · rw [if_neg (by omega), if_neg (by omega)] at hc
      simp [cI, s137_4, s137_5, hlt, hlb, hwi, he]
      exact back (i + 1) ⟨by omega, by omega, hc⟩ (by omega) rfl (by simp) (by simp) (by simp)
    · simp [cI, s137_4, s137_5, hlt, hlb, hwi, he]
      refine call_f (w_impl_compareInts a[i] b[i]) (by simp) rfl fun hs1 hh1 => ?_
      have : (if a[i] < b[i] then (-1 : Int) else if b[i] < a[i] then 1 else 0) = cmpL a b := by rw [hc]; by_cases h1 : a[i] < b[i] <;> simp [h1]; omega
      simp [this]
  · have he := cmpL_end hi.1 hi.2.1 hlt
    rw [← hi.2.2] at he
    have hcm : (if (a.length : Int) < b.length then (-1 : Int) else if (b.length : Int) < a.length then 1 else 0) = cmpL a b := by rw [he]; simp
    by_cases hl1 : i < a.length
    · have hl2 : ¬ i < b.length := fun h => hlt ⟨hl1, h⟩
      simp [hl1, hl2]
      refine call_f (w_impl_compareInts a.length b.length) (by simp) rfl fun hs1 hh1 => ?_
      simp only [hcm]
      simp
    · simp [hl1]
      refine call_f (w_impl_compareInts a.length b.length) (by simp) rfl fun hs1 hh1 => ?_
      simp only [hcm]
      simp

end Go.Proofs.YtggbpdjjlgejmaaGreat


namespace Go.Proofs.YtggbpdjjlgejmaaGreat
open Go.Vs Go.Proofs Go
set_option maxRecDepth 100000
set_option maxHeartbeats 1000000

theorem w_impl_rowsValid (ar : Int) (l : List (List Int)) : VC Tryz.prog 138 [.d (.int .i64 ar), .d (pS (cP cI) l)] (fun _ r => r = .d (.bool (rowsOk ar l))) := by
  refine VC.ofL EP s138 (by kernel_rfl) Tryz.func138 (by rfl) (by kernel_rfl) (by simp [Tryz.f138]) (by simp [Tryz.f138]) s138_ok fun B hl => ?_
  simp [pS, cP, cI, maxLen] at hl
  simp [Tryz.f138, pS]
  refine call_f (w_impl_within ar 0 5) (by simp) rfl fun hs0 hh0 => ?_
  simp at hh0
  cases h1 : inR ar 0 5
  · simp [rowsOk, h1]
  by_cases h2 : (4000 : Int) < l.length
  · simp [rowsOk, h2, show ¬ l.length ≤ 4000 by omega]
  have h2' : l.length ≤ 4000 := by omega
  simp [h2]
  refine loop_rule (X := Nat) (fun i => i ≤ l.length ∧ ∀ j, j < i → rowOk ar l j = true) (fun i => [(0, .d (.int .i64 ar)), (1, .d (.pl (l.map (cP cI)))), (15, .d (.pl (l.map (cP cI)))), (16, .d (.int .i64 l.length)), (17, .d (.int .i64 i))]) (fun _ => []) (fun i => l.length - i) 0 (by simp) (by simp) (by simp) ?_
  intro i hs t m hi hh
  by_cases hlt : i < l.length
  · have hwi := wr1 (i := i) (by omega)
    have hr : rowOk ar l i = (decide ((l[i].length : Int) = ar) && valsOk l[i] && (i == 0 || decide (cmpL (l.getD (i - 1) []) l[i] < 0))) := by simp [rowOk, hlt]
    have hbad := fun h => rows_bad (ar := ar) hlt h
    have step : rowOk ar l i = true → ∀ j, j < i + 1 → rowOk ar l j = true := fun h j hj => by
      rcases Nat.lt_succ_iff_lt_or_eq.1 hj with h' | h'
      · exact hi.2 j h'
      · rw [h']; exact h
    by_cases c1 : (l[i].length : Int) = ar
    case neg => simp [hlt, cP, pS, c1, hbad (by rw [hr]; simp [c1])]
    simp [hlt, cP, pS, c1]
    refine call_f (w_impl_AreValidValues l[i]) (by simp [pS]) rfl fun hs1 hh1 => ?_
    simp at hh1
    cases c2 : valsOk l[i]
    · simp [hbad (by rw [hr]; simp [c2])]
    by_cases c3 : i = 0
    · subst c3
      simp [hwi, show IntKind.i64.wrap 1 = 1 by decide]
      exact back 1 ⟨by omega, step (by rw [hr]; simp [c1, c2])⟩ (by omega) rfl (by simp <;> omega) (by simp [cP, pS, show IntKind.i64.wrap 1 = 1 by decide]) (by simp)
    · have hw1 : IntKind.i64.wrap ((i : Int) - 1) = ((i - 1 : Nat) : Int) := by rw [wrap64_of (by omega) (by omega)]; omega
      have hip : (0 : Int) < i := by omega
      have hlt1 : i - 1 < l.length := by omega
      have hg1 : l.getD (i - 1) [] = l[i - 1] := by simp [hlt1]
      rw [hg1] at hr
      simp [hip, hw1, hlt1, cP, pS, c3, show 0 < i by omega]
      refine call_f (w_impl_CompareRows l[i - 1] l[i]) (by simp [pS]) rfl fun hs2 hh2 => ?_
      simp at hh2
      by_cases c4 : cmpL l[i - 1] l[i] < 0
      · simp [hwi, show ¬ 0 ≤ cmpL l[i - 1] l[i] by omega]
        exact back (i + 1) ⟨by omega, step (by rw [hr]; simp [c1, c2, c4])⟩ (by omega) rfl (by simp <;> omega) (by simp [cP, pS]) (by simp)
      · simp [show 0 ≤ cmpL l[i - 1] l[i] by omega, hbad (by rw [hr]; simp [c3, c4])]
  · have hn : i = l.length := by omega
    have hd := rows_done h1 h2' (hn ▸ hi.2)
    simp [hlt, hd]
theorem w_impl_IsValidRelation (r : PReln) : VC Tryz.prog 94 [.agg ((eReln r).map .d)] (fun _ v => v = .d (.bool (rowsOk r.ar r.rows))) := by
  refine VC.ofL EP s94 (by kernel_rfl) Tryz.func94 (by rfl) (by kernel_rfl) (by simp [Tryz.f94]) (by simp [Tryz.f94]) s94_ok fun B hl => ?_
  simp [Tryz.f94, eReln, cI, cP]
  refine call_f (w_impl_rowsValid r.ar r.rows) (by simp [pS, cP]) rfl fun hs0 hh0 => ?_
  simp
theorem w_spec_IsValidRelation (r : PReln) : VC Tryz.prog 129 [.agg ((eReln r).map .d)] (fun _ v => v = .d (.bool (rowsOk r.ar r.rows))) := by
  obtain ⟨ar, l⟩ := r
  refine VC.ofL EP s129 (by kernel_rfl) Tryz.func129 (by rfl) (by kernel_rfl) (by simp [Tryz.f129]) (by simp [Tryz.f129]) s129_ok fun B hl => ?_
  simp [eReln, pS, cP, cI, maxLen] at hl
  simp [Tryz.f129, s129_6, eReln, cI, cP, pS]
  refine call_f (w_spec_l1In ar 0 5) (by simp) rfl fun hs0 hh0 => ?_
  simp at hh0
  cases h1 : inR ar 0 5
  · simp [rowsOk, h1]
  by_cases h2 : (4000 : Int) < l.length
  · simp [rowsOk, h2, show ¬ l.length ≤ 4000 by omega]
  have h2' : l.length ≤ 4000 := by omega
  simp [h2]
  refine loop_rule (X := Nat) (fun i => i ≤ l.length ∧ ∀ j, j < i → rowOk ar l j = true) (fun i => [(1, .ptr 1 0 0), (3, .d (.int .i64 i))]) (fun _ => [(1, some (.box [.d (.int .i64 ar), .d (.pl (l.map fun xs => [.pl (xs.map cI)]))]))]) (fun i => l.length - i) 0 (by simp) (by simp) (by simp [cI, cP, pS]) ?_
  intro i hs t m hi hh
  by_cases hlt : i < l.length
  · have hwi := wr1 (i := i) (by omega)
    have hr : rowOk ar l i = (decide ((l[i].length : Int) = ar) && valsOk l[i] && (i == 0 || decide (cmpL (l.getD (i - 1) []) l[i] < 0))) := by simp [rowOk, hlt]
    have hbad := fun h => rows_bad (ar := ar) hlt h
    have step : rowOk ar l i = true → ∀ j, j < i + 1 → rowOk ar l j = true := fun h j hj => by
      rcases Nat.lt_succ_iff_lt_or_eq.1 hj with h' | h'
      · exact hi.2 j h'
      · rw [h']; exact h
    by_cases c1 : (l[i].length : Int) = ar
    case neg => simp [hlt, s129_6, c1, hbad (by rw [hr]; simp [c1])]
    simp [hlt, s129_6, c1]
    refine call_f (w_spec_AreValidValues l[i]) (by simp [pS]) rfl fun hs1 hh1 => ?_
    simp at hh1
    cases c2 : valsOk l[i]
    · simp [hbad (by rw [hr]; simp [c2])]
    by_cases c3 : i = 0
    · subst c3
      simp [hwi, show IntKind.i64.wrap 1 = 1 by decide]
      exact back 1 ⟨by omega, step (by rw [hr]; simp [c1, c2])⟩ (by omega) rfl (by simp <;> omega) (by simp [show IntKind.i64.wrap 1 = 1 by decide]) (by simp)
    · have hw1 : IntKind.i64.wrap ((i : Int) - 1) = ((i - 1 : Nat) : Int) := by rw [wrap64_of (by omega) (by omega)]; omega
      have hip : (0 : Int) < i := by omega
      have hlt1 : i - 1 < l.length := by omega
      have hg1 : l.getD (i - 1) [] = l[i - 1] := by simp [hlt1]
      rw [hg1] at hr
      simp [hip, hw1, hlt1, hlt, c3, show 0 < i by omega]
      refine call_f (w_spec_CompareRows l[i - 1] l[i]) (by simp [pS]) rfl fun hs2 hh2 => ?_
      simp at hh2
      by_cases c4 : cmpL l[i - 1] l[i] < 0
      · simp [hwi, show ¬ 0 ≤ cmpL l[i - 1] l[i] by omega]
        exact back (i + 1) ⟨by omega, step (by rw [hr]; simp [c1, c2, c4])⟩ (by omega) rfl (by simp <;> omega) (by simp) (by simp)
      · simp [show 0 ≤ cmpL l[i - 1] l[i] by omega, hbad (by rw [hr]; simp [c3, c4])]
  · have hn : i = l.length := by omega
    have hd := rows_done h1 h2' (hn ▸ hi.2)
    simp [hlt, hd]

end Go.Proofs.YtggbpdjjlgejmaaGreat


namespace Go.Proofs.YtggbpdjjlgejmaaGreat
open Go.Vs Go.Proofs Go
set_option maxRecDepth 100000
set_option maxHeartbeats 1000000

theorem w_impl_place (l : List (List Int)) (row : List Int) (hb : l.length ≤ 4294967296) : VC Tryz.prog 140 [.d (pS (cP cI) l), .d (pS cI row)] (fun _ v => v = .tup [.d (.int .i64 (placeK l row)), .d (.bool (placeB l row))]) := by
  refine VC.ofL EP s140 (by kernel_rfl) Tryz.func140 (by rfl) (by kernel_rfl) (by simp [Tryz.f140]) (by simp [Tryz.f140]) s140_ok fun B hl => ?_
  simp [pS, cP, cI, maxLen] at hl
  simp [Tryz.f140, pS]
  refine loop_rule (X := Nat × Nat) (fun p => p.1 ≤ p.2 ∧ p.2 ≤ l.length ∧ bs l row p.1 p.2 = placeK l row) (fun p => [(0, .d (.pl (l.map (cP cI)))), (1, .d (.pl (row.map cI))), (6, .d (.int .i64 p.1)), (7, .d (.int .i64 p.2))]) (fun _ => []) (fun p => p.2 - p.1) (0, l.length) (by simp; rfl) (by simp) (by simp) ?_
  rintro ⟨lo, hi⟩ hs t m ⟨h1, h2, h3⟩ hh
  simp only at h1 h2 h3
  by_cases hlt : lo < hi
  · rw [bs_lt hlt] at h3
    have hm := mid64 (a := lo) (b := hi) (by omega) (by omega)
    have hml : (lo + hi) / 2 < l.length := by omega
    have hk1 : lo ≤ (lo + hi) / 2 ∧ (lo + hi) / 2 < hi := by omega
    generalize (lo + hi) / 2 = k at *
    have hg : l.getD k [] = l[k] := by simp [hml]
    simp [hlt, hm, hml, cP, pS]
    refine call_f (w_impl_CompareRows l[k] row) (by simp [pS]) rfl fun hs1 hh1 => ?_
    simp at hh1
    rw [hg] at h3
    by_cases hc : cmpL l[k] row < 0
    · rw [if_pos hc] at h3
      have hw := wr1 (i := k) (by omega)
      simp [hc, hw]
      exact back (k + 1, hi) ⟨by simp; omega, h2, h3⟩ (by simp; omega) rfl (by simp <;> omega) (by simp [cP, pS]) (by simp)
    · rw [if_neg hc] at h3
      simp [hc]
      exact back (lo, k) ⟨by simp; omega, by simp; omega, h3⟩ (by simp; omega) rfl (by simp <;> omega) (by simp [cP, pS]) (by simp)
  · rw [bs_ge hlt] at h3
    subst h3
    by_cases hk : placeK l row < l.length
    · simp [hlt, hk, cP, pS]
      refine call_f (w_impl_CompareRows l[placeK l row] row) (by simp [pS]) rfl fun hs1 hh1 => ?_
      simp [placeB, hk]
    · simp [hlt, hk, placeB]
theorem w_spec_l5Place (r : PReln) (row : List Int) (hb : r.rows.length ≤ 4294967296) : VC Tryz.prog 142 [.agg ((eReln r).map .d), .d (pS cI row)] (fun _ v => v = .tup [.d (.int .i64 (placeK r.rows row)), .d (.bool (placeB r.rows row))]) := by
  obtain ⟨ar, l⟩ := r
  simp only at hb ⊢
  refine VC.ofL EP s142 (by kernel_rfl) Tryz.func142 (by rfl) (by kernel_rfl) (by simp [Tryz.f142]) (by simp [Tryz.f142]) s142_ok fun B hl => ?_
  simp [eReln, pS, cP, cI, maxLen] at hl
  simp [Tryz.f142, eReln, cI, cP, pS]
  refine loop_rule (X := Nat × Nat) (fun p => p.1 ≤ p.2 ∧ p.2 ≤ l.length ∧ bs l row p.1 p.2 = placeK l row) (fun p => [(2, .ptr 2 0 0), (1, .d (.pl (row.map cI))), (6, .d (.int .i64 p.1)), (7, .d (.int .i64 p.2))]) (fun _ => [(2, some (.box [.d (.int .i64 ar), .d (.pl (l.map (cP cI)))]))]) (fun p => p.2 - p.1) (0, l.length) (by simp; rfl) (by simp [cI]) (by simp [cP, pS, cI]) ?_
  rintro ⟨lo, hi⟩ hs t m ⟨h1, h2, h3⟩ hh
  simp only at h1 h2 h3
  by_cases hlt : lo < hi
  · rw [bs_lt hlt] at h3
    have hm := mid64 (a := lo) (b := hi) (by omega) (by omega)
    have hml : (lo + hi) / 2 < l.length := by omega
    have hk1 : lo ≤ (lo + hi) / 2 ∧ (lo + hi) / 2 < hi := by omega
    generalize (lo + hi) / 2 = k at *
    have hg : l.getD k [] = l[k] := by simp [hml]
    simp [hlt, hm, hml, cP, pS]
    refine call_f (w_spec_CompareRows l[k] row) (by simp [pS]) rfl fun hs1 hh1 => ?_
    simp at hh1
    rw [hg] at h3
    by_cases hc : cmpL l[k] row < 0
    · rw [if_pos hc] at h3
      have hw := wr1 (i := k) (by omega)
      simp [hc, hw]
      exact back (k + 1, hi) ⟨by simp; omega, h2, h3⟩ (by simp; omega) rfl (by simp <;> omega) (by simp [cP, pS]) (by simp [cP, pS])
    · rw [if_neg hc] at h3
      simp [hc]
      exact back (lo, k) ⟨by simp; omega, by simp; omega, h3⟩ (by simp; omega) rfl (by simp <;> omega) (by simp [cP, pS]) (by simp [cP, pS])
  · rw [bs_ge hlt] at h3
    subst h3
    by_cases hk : placeK l row < l.length
    · simp [hlt, hk, cP, pS]
      refine call_f (w_spec_CompareRows l[placeK l row] row) (by simp [pS]) rfl fun hs1 hh1 => ?_
      simp [placeB, hk]
    · simp [hlt, hk, placeB]
theorem w_impl_IsValidCounted (c : PCnt) : VC Tryz.prog 96 [.agg ((eCnt c).map .d)] (fun _ v => v = .d (.bool (cntsOk c))) := by
  obtain ⟨ar, l, cs⟩ := c
  refine VC.ofL EP s96 (by kernel_rfl) Tryz.func96 (by rfl) (by kernel_rfl) (by simp [Tryz.f96]) (by simp [Tryz.f96]) s96_ok fun B hl => ?_
  simp [eCnt, pS, cP, cI, maxLen] at hl
  simp [Tryz.f96, eCnt, cI, cP, pS]
  refine call_f (w_impl_rowsValid ar l) (by simp [pS, cP, cI]) rfl fun hs0 hh0 => ?_
  simp at hh0
  cases h1 : rowsOk ar l
  · simp [cntsOk, h1]
  by_cases h2 : cs.length = l.length
  case neg => simp [h2, cntsOk, show ¬ l.length = cs.length by omega]
  simp [h2]
  refine loop_rule (X := Nat) (fun i => i ≤ cs.length ∧ (cs.take i).all cntOk = true) (fun i => [(21, .d (.pl (cs.map cI))), (22, .d (.int .i64 cs.length)), (23, .d (.int .i64 i))]) (fun _ => []) (fun i => cs.length - i) 0 (by simp) (by simp [cI, h2]) (by simp) ?_
  intro i hs t m hi hh
  by_cases hlt : i < cs.length
  · have hwi := wr1 (i := i) (by omega)
    have hst := all_step (p := cntOk) hlt
    rw [hi.2, Bool.true_and] at hst
    have hbad : cntOk cs[i] = false → cntsOk ⟨ar, l, cs⟩ = false := fun h => by simp only [cntsOk]; rw [all_bad (p := cntOk) hlt h]; simp
    by_cases h0 : cs[i] = 0
    · simp [hlt, cI, h0, hbad (by simp [cntOk, h0])]
    simp [hlt, cI, h0]
    refine call_f (w_impl_within cs[i] (-1000000) 1000000) (by simp) rfl fun hs1 hh1 => ?_
    simp at hh1
    cases hc : inR cs[i] (-1000000) 1000000
    · simp [hbad (by simp [cntOk, hc])]
    · simp [hwi]
      exact back (i + 1) ⟨by omega, List.all_eq_true.1 (hst.trans (by simp [cntOk, hc, h0]))⟩ (by omega) rfl (by simp <;> omega) (by simp [cI]) (by simp)
  · have hd : cs.all cntOk = true := all_done (by omega) hi.2
    have hf : cntsOk ⟨ar, l, cs⟩ = true := by simp only [cntsOk]; rw [hd]; simp [h1, h2]
    simp [hlt, hf]
theorem w_spec_IsValidCounted (c : PCnt) : VC Tryz.prog 111 [.agg ((eCnt c).map .d)] (fun _ v => v = .d (.bool (cntsOk c))) := by
  obtain ⟨ar, l, cs⟩ := c
  refine VC.ofL EP s111 (by kernel_rfl) Tryz.func111 (by rfl) (by kernel_rfl) (by simp [Tryz.f111]) (by simp [Tryz.f111]) s111_ok fun B hl => ?_
  simp [eCnt, pS, cP, cI, maxLen] at hl
  by_cases h2 : l.length = cs.length
  case neg => simp [Tryz.f111, eCnt, cI, cP, pS, h2, cntsOk]
  simp [Tryz.f111, eCnt, cI, cP, pS, h2]
  refine call_f (w_spec_IsValidRelation ⟨ar, l⟩) (by simp [eReln, pS, cP, cI]) rfl fun hs0 hh0 => ?_
  simp at hh0
  cases h1 : rowsOk ar l
  · simp [cntsOk, h1]
  simp
  refine loop_rule (X := Nat) (fun i => i ≤ cs.length ∧ (cs.take i).all cntOk = true) (fun i => [(1, .ptr 1 0 0), (3, .d (.int .i64 i))]) (fun _ => [(1, some (.box [.d (.int .i64 ar), .d (.pl (l.map (cP cI))), .d (.pl (cs.map cI))]))]) (fun i => cs.length - i) 0 (by simp) (by simp) (by simp [cI, cP, pS]) ?_
  intro i hs t m hi hh
  by_cases hlt : i < cs.length
  · have hwi := wr1 (i := i) (by omega)
    have hst := all_step (p := cntOk) hlt
    rw [hi.2, Bool.true_and] at hst
    have hbad : cntOk cs[i] = false → cntsOk ⟨ar, l, cs⟩ = false := fun h => by simp only [cntsOk]; rw [all_bad (p := cntOk) hlt h]; simp
    by_cases h0 : cs[i] = 0
    · simp [hlt, cI, h0, hbad (by simp [cntOk, h0])]
    simp [hlt, cI, h0]
    refine call_f (w_spec_l1In cs[i] (-1000000) 1000000) (by simp) rfl fun hs1 hh1 => ?_
    simp at hh1
    cases hc : inR cs[i] (-1000000) 1000000
    · simp [hbad (by simp [cntOk, hc])]
    · simp [hwi]
      exact back (i + 1) ⟨by omega, List.all_eq_true.1 (hst.trans (by simp [cntOk, hc, h0]))⟩ (by omega) rfl (by simp <;> omega) (by simp [cI]) (by simp [cI])
  · have hd : cs.all cntOk = true := all_done (by omega) hi.2
    have hf : cntsOk ⟨ar, l, cs⟩ = true := by simp only [cntsOk]; rw [hd]; simp [h1, h2]
    simp [hlt, hf]

end Go.Proofs.YtggbpdjjlgejmaaGreat


namespace Go.Proofs.YtggbpdjjlgejmaaGreat
open Go.Vs Go.Proofs Go
set_option maxRecDepth 100000
set_option maxHeartbeats 1000000


end Go.Proofs.YtggbpdjjlgejmaaGreat


namespace Go.Proofs.YtggbpdjjlgejmaaGreat
open Go.Vs Go.Proofs Go
set_option maxRecDepth 100000
set_option maxHeartbeats 1000000

section
attribute [local simp] plI_id plStr_id map_plI map_plStr pS cP cI cStr cU8 cB
theorem w_spec_l7Find (l : List Int) (v : Int) : VC Tryz.prog 155 [.d (pS cI l), .d (.int .i64 v)] (fun _ r => r = .d (.int .i64 (idxL l v))) := by
  refine VC.ofL EP s155 (by kernel_rfl) Tryz.func155 (by rfl) (by kernel_rfl) (by simp [Tryz.f155]) (by simp [Tryz.f155]) s155_ok fun B hl => ?_
  simp [pS, maxLen] at hl
  simp [Tryz.f155, ]
  refine loop_rule (X := Nat) (fun i => i ≤ l.length ∧ AllTo (fun x => !(x == v)) l i) (fun i => [(0, .d (.pl (l.map cI))), (1, .d (.int .i64 v)), (5, .d (.int .i64 i))]) (fun _ => []) (fun i => l.length - i) 0 ⟨by simp, allTo_zero⟩ (by simp) (by simp) ?_
  intro i hs t m hi hh
  by_cases hlt : i < l.length
  · have hwi := wr1 (i := i) (by omega)
    by_cases he : l[i] = v
    · have hx := idxL_at hi.2 hlt he
      simp [hlt, he, hx, ]
    · simp [hlt, he, hwi, ]
      exact back (i + 1) ⟨by omega, allTo_step hi.2 hlt (by simp [he])⟩ (by omega) rfl (by simp <;> omega) (by simp) (by simp)
  · have hx := (idxL_no (allTo_done hi.2 (by omega))).2
    simp [hlt, hx]
theorem w_impl_indexOf (l : List Int) (v : Int) : VC Tryz.prog 136 [.d (pS cI l), .d (.int .i64 v)] (fun _ r => r = .d (.int .i64 (idxL l v))) := by
  refine VC.ofL EP s136 (by kernel_rfl) Tryz.func136 (by rfl) (by kernel_rfl) (by simp [Tryz.f136]) (by simp [Tryz.f136]) s136_ok fun B hl => ?_
  simp [pS, maxLen] at hl
  simp [Tryz.f136, ]
  refine loop_rule (X := Nat) (fun i => i ≤ l.length ∧ AllTo (fun x => !(x == v)) l i) (fun i => [(1, .d (.int .i64 v)), (7, .d (.pl (l.map cI))), (8, .d (.int .i64 l.length)), (9, .d (.int .i64 i))]) (fun _ => []) (fun i => l.length - i) 0 ⟨by simp, allTo_zero⟩ (by simp) (by simp) ?_
  intro i hs t m hi hh
  by_cases hlt : i < l.length
  · have hwi := wr1 (i := i) (by omega)
    by_cases he : l[i] = v
    · have hx := idxL_at hi.2 hlt he
      simp [hlt, he, hx, ]
    · simp [hlt, he, hwi, ]
      exact back (i + 1) ⟨by omega, allTo_step hi.2 hlt (by simp [he])⟩ (by omega) rfl (by simp <;> omega) (by simp) (by simp)
  · have hx := (idxL_no (allTo_done hi.2 (by omega))).2
    simp [hlt, hx]
theorem w_impl_hasInt (l : List Int) (v : Int) : VC Tryz.prog 161 [.d (pS cI l), .d (.int .i64 v)] (fun _ r => r = .d (.bool (l.contains v))) := by
  refine VC.ofL EP s161 (by kernel_rfl) Tryz.func161 (by rfl) (by kernel_rfl) (by simp [Tryz.f161]) (by simp [Tryz.f161]) s161_ok fun B hl => ?_
  rw [← idxL_ge]
  simp [Tryz.f161, ]
  refine call_f (w_impl_indexOf l v) (by simp) rfl fun hs1 hh1 => ?_
  simp
theorem w_spec_ContainsVariable (a : PAtom) (v : Int) : VC Tryz.prog 154 [.agg ((eAtom a).map V.d), .d (.int .i64 v)] (fun _ r => r = .d (.bool (a.vars.contains v))) := by
  refine VC.ofL EP s154 (by kernel_rfl) Tryz.func154 (by rfl) (by kernel_rfl) (by simp [Tryz.f154]) (by simp [Tryz.f154]) s154_ok fun B hl => ?_
  obtain ⟨nm, l⟩ := a
  simp [pS, maxLen, eAtom] at hl
  simp [Tryz.f154, eAtom]
  refine loop_rule (X := Nat) (fun i => i ≤ l.length ∧ AllTo (fun x => !(x == v)) l i) (fun i => [(1, .d (.int .i64 v)), (2, .ptr 2 0 0), (5, .d (.int .i64 i))]) (fun _ => [(2, some (.box [.d (.str nm), .d (.pl (l.map cI))]))]) (fun i => l.length - i) 0 ⟨by simp, allTo_zero⟩ (by simp) (by simp) ?_
  intro i hs t m hi hh
  by_cases hlt : i < l.length
  · have hwi := wr1 (i := i) (by omega)
    by_cases he : l[i] = v
    · have hx : v ∈ l := he ▸ List.getElem_mem hlt
      simp [hlt, he, hx, ]
    · simp [hlt, he, hwi, ]
      exact back (i + 1) ⟨by omega, allTo_step hi.2 hlt (by simp [he])⟩ (by omega) rfl (by simp <;> omega) (by simp) (by simp)
  · have hx := (idxL_no (allTo_done hi.2 (by omega))).1
    simp [hlt, hx]
theorem w_impl_ContainsVariable (a : PAtom) (v : Int) : VC Tryz.prog 158 [.agg ((eAtom a).map V.d), .d (.int .i64 v)] (fun _ r => r = .d (.bool (a.vars.contains v))) := by
  refine VC.ofL EP s158 (by kernel_rfl) Tryz.func158 (by rfl) (by kernel_rfl) (by simp [Tryz.f158]) (by simp [Tryz.f158]) s158_ok fun B hl => ?_
  simp [Tryz.f158, eAtom]
  refine call_f (w_impl_hasInt a.vars v) (by simp) rfl fun hs1 hh1 => ?_
  simp
theorem w_impl_isLetters (s : List UInt8) : VC Tryz.prog 162 [.d (.str s), .d (.int .i64 4)] (fun _ r => r = .d (.bool (nameOk s))) := by
  refine VC.ofL EP s162 (by kernel_rfl) Tryz.func162 (by rfl) (by kernel_rfl) (by simp [Tryz.f162]) (by simp [Tryz.f162]) s162_ok fun B hl => ?_
  by_cases h1 : (s.length : Int) < 1
  · have : s = [] := List.length_eq_zero_iff.1 (by omega)
    subst this
    simp [Tryz.f162, nameOk_len]
  by_cases h4 : (4 : Int) < s.length
  · have : nameOk s = false := nameOk_len (by omega)
    simp [Tryz.f162, h1, h4, this]
  have hlen : 1 ≤ s.length ∧ s.length ≤ 4 := by omega
  simp [Tryz.f162, h1, h4]
  refine loop_rule (X := Nat) (fun i => i ≤ s.length ∧ AllTo lowB s i) (fun i => [(0, .d (.str s)), (5, .d (.int .i64 i))]) (fun _ => []) (fun i => s.length - i) 0 ⟨by simp, allTo_zero⟩ (by simp) (by simp) ?_
  intro i hs t m hi hh
  by_cases hlt : i < s.length
  · have hwi := wr1 (i := i) (by omega)
    by_cases ha : ((s[i]).toNat : Int) < 97
    · have hbad := nameOk_bad (all_bad (p := lowB) hlt (lowB_lo ha))
      simp [hlt, ha, hbad, ]
    · by_cases hz : (122 : Int) < ((s[i]).toNat : Int)
      · have hbad := nameOk_bad (all_bad (p := lowB) hlt (lowB_hi hz))
        simp [hlt, ha, hz, hbad, ]
      · simp [hlt, ha, hz, hwi, ]
        exact back (i + 1) ⟨by omega, allTo_step hi.2 hlt (lowB_ok ha hz)⟩ (by omega) rfl (by simp <;> omega) (by simp) (by simp)
  · have hd := allTo_done hi.2 (by omega)
    have hd2 : nameOk s = true := by rw [nameOk_ok hd, decide_eq_true hlen]
    simp [hlt, hd2]
theorem w_impl_IsValidName (s : List UInt8) : VC Tryz.prog 157 [.d (.str s)] (fun _ r => r = .d (.bool (nameOk s))) := by
  refine VC.ofL EP s157 (by kernel_rfl) Tryz.func157 (by rfl) (by kernel_rfl) (by simp [Tryz.f157]) (by simp [Tryz.f157]) s157_ok fun B hl => ?_
  simp [Tryz.f157, ]
  refine call_f (w_impl_isLetters s) (by simp) rfl fun hs1 hh1 => ?_
  simp
theorem w_spec_IsValidName (s : List UInt8) (hb : s.length ≤ maxLen) : VC Tryz.prog 153 [.d (.str s)] (fun _ r => r = .d (.bool (nameOk s))) := by
  refine VC.ofL EP s153 (by kernel_rfl) Tryz.func153 (by rfl) (by kernel_rfl) (by simp [Tryz.f153]) (by simp [Tryz.f153]) s153_ok fun B hl => ?_
  simp only [maxLen] at hb
  simp [Tryz.f153, ]
  refine loop_rule (X := Nat) (fun i => i ≤ s.length ∧ AllTo lowB s i) (fun i => [(0, .d (.str s)), (3, .d (.int .i64 i))]) (fun _ => []) (fun i => s.length - i) 0 ⟨by simp, allTo_zero⟩ (by simp) (by simp) ?_
  intro i hs t m hi hh
  by_cases hlt : i < s.length
  · have hwi := wr1 (i := i) (by omega)
    by_cases ha : ((s[i]).toNat : Int) < 97
    · have hbad := nameOk_bad (all_bad (p := lowB) hlt (lowB_lo ha))
      simp [hlt, ha, hbad, ]
    · by_cases hz : (122 : Int) < ((s[i]).toNat : Int)
      · have hbad := nameOk_bad (all_bad (p := lowB) hlt (lowB_hi hz))
        simp [hlt, ha, hz, hbad, ]
      · simp [hlt, ha, hz, hwi, ]
        exact back (i + 1) ⟨by omega, allTo_step hi.2 hlt (lowB_ok ha hz)⟩ (by omega) rfl (by simp <;> omega) (by simp) (by simp)
  · have hd := allTo_done hi.2 (by omega)
    simp [hlt, ]
    refine call_f (w_spec_l1In s.length 1 4) (by simp) rfl fun hs1 hh1 => ?_
    have e : inR (s.length : Int) 1 4 = decide (1 ≤ s.length ∧ s.length ≤ 4) := by
      simp only [inR, ← Bool.decide_and]; congr 1; apply propext; omega
    rw [e, nameOk_ok hd]
    simp
theorem w_impl_isSetOf (l : List Int) (n : Int) : VC Tryz.prog 156 [.d (pS cI l), .d (.int .i64 n)] (fun _ r => r = .d (.bool (setOf l n))) := by
  refine VC.ofL EP s156 (by kernel_rfl) Tryz.func156 (by rfl) (by kernel_rfl) (by simp [Tryz.f156]) (by simp [Tryz.f156]) s156_ok fun B hl => ?_
  simp [pS, maxLen] at hl
  simp [Tryz.f156, ]
  refine loop_rule (X := Nat) (SetTo l n) (fun i => [(0, .d (.pl (l.map cI))), (1, .d (.int .i64 n)), (7, .d (.pl (l.map cI))), (8, .d (.int .i64 l.length)), (9, .d (.int .i64 i))]) (fun _ => []) (fun i => l.length - i) 0 .zero (by simp) (by simp) ?_
  intro i hs t m hi hh
  have hil := hi.le
  by_cases hlt : i < l.length
  · have hwi := wr1 (i := i) (by omega)
    simp [hlt, ]
    refine call_f (w_impl_within l[i] 0 (IntKind.i64.wrap (n - 1))) (by simp) rfl fun hs1 hh1 => ?_
    simp at hh1
    cases h1 : inR l[i] 0 (IntKind.i64.wrap (n - 1))
    · simp [setOf_bad1 hlt h1]
    simp [hil, ← List.map_take, ]
    refine call_f (w_impl_hasInt (l.take i) l[i]) (by simp) rfl fun hs2 hh2 => ?_
    simp at hh2
    by_cases h2 : l[i] ∈ l.take i
    · simp [h2, setOf_bad2 hlt h2]
    simp [h2, hwi, ]
    exact back (i + 1) (hi.step hlt h1 h2) (by omega) rfl (by simp <;> omega) (by simp) (by simp)
  · have hd := hi.done (by omega)
    simp [hlt, hd]
end

end Go.Proofs.YtggbpdjjlgejmaaGreat


namespace Go.Proofs.YtggbpdjjlgejmaaGreat
open Go.Vs Go.Proofs Go
set_option maxRecDepth 100000
set_option maxHeartbeats 1000000

section
attribute [local simp] plI_id plStr_id map_plI map_plStr pS cP cI cStr cU8 cB eAtom
theorem w_spec_IsValidQuery (q : PQuery) (hst : ∀ a ∈ q.atoms, a.rel.length ≤ maxLen) : VC Tryz.prog 127 [.agg ((eQuery q).map V.d)] (fun _ r => r = .d (.bool (queryOk q))) := by
  refine VC.ofL EP s127 (by kernel_rfl) Tryz.func127 (by rfl) (by kernel_rfl) (by simp [Tryz.f127]) (by simp [Tryz.f127]) s127_ok fun B hl => ?_
  obtain ⟨n, ats, out⟩ := q
  simp only at hst
  simp [pS, maxLen, eQuery] at hl
  simp [Tryz.f127, s127_11, s127_26, s127_11, s127_26, eQuery]
  refine call_f (w_spec_l1In n 1 5) (by simp) rfl fun hs1 hh1 => ?_
  simp at hh1
  cases h1 : inR n 1 5
  · simp [queryOk_n (q := ⟨n, ats, out⟩) h1]
  have hn : 1 ≤ n ∧ n ≤ 5 := by simpa [inR] using h1
  simp [s127_11, s127_26, eQuery]
  refine call_f (w_spec_l1In ats.length 1 4) (by simp) rfl fun hs2 hh2 => ?_
  simp at hh2
  cases h2 : inR (ats.length : Int) 1 4
  · simp [queryOk_a (q := ⟨n, ats, out⟩) h2]
  have ha4 : ats.length ≤ 4 := by simp [inR] at h2; omega
  by_cases h3 : n < out.length
  · have hso : setOf out n = false := by
      cases hs : setOf out n
      · rfl
      · have := setOf_len hn hs; omega
    simp [h3, queryOk_o (q := ⟨n, ats, out⟩) hso]
  have hrw : ∀ i (h : i < ats.length), ats[i].rel.length ≤ maxLen := fun i h => hst _ (List.getElem_mem h)
  have hvl : ∀ i (h : i < ats.length), ats[i].vars.length ≤ 9223372036854775807 := fun i h => (hl.1.2 _ (List.getElem_mem h))
  simp [h3]
  refine loop_rule (X := Nat) (AtI n ats) (fun i => [(1, .ptr 1 0 0), (3, .d (.int .i64 i))]) (fun _ => [(1, some (.box [.d (.int .i64 n), .d (.pl (ats.map eAtom)), .d (.pl (out.map cI))]))]) (fun i => ats.length - i) 0 .zero (by simp) (by simp) ?_
  intro i hs t m hi hh
  have hil := hi.le
  by_cases hlt : i < ats.length
  · have hwi := wr1 (i := i) (by omega)
    have hbad : atomOk n ats[i] = false → queryOk ⟨n, ats, out⟩ = false := fun h => queryOk_at (q := ⟨n, ats, out⟩) hlt h
    simp [hlt, s127_11, s127_26, ]
    refine call_f (w_spec_IsValidName ats[i].rel (hrw i hlt)) (by simp) rfl fun hs3 hh3 => ?_
    simp at hh3
    cases h4 : nameOk ats[i].rel
    · simp [hbad (by simp only [atomOk, h4, Bool.false_and])]
    simp [hlt, s127_11, s127_26, ]
    refine call_f (w_spec_l1In ats[i].vars.length 1 5) (by simp) rfl fun hs4 hh4 => ?_
    simp at hh4
    cases h5 : inR (ats[i].vars.length : Int) 1 5
    · simp [hbad (by simp only [atomOk, h5, Bool.false_and, Bool.and_false])]
    simp [s127_11, s127_26, ]
    refine loop_rule (X := Nat) (AtK n ats[i].vars) (fun k => [(1, .ptr 1 0 0), (3, .d (.int .i64 i)), (4, .d (.int .i64 k))]) (fun _ => [(1, some (.box [.d (.int .i64 n), .d (.pl (ats.map eAtom)), .d (.pl (out.map cI))]))]) (fun k => ats[i].vars.length - k) 0 .zero (by simp) (by simp) ?_
    intro k hs t m hk hh
    have hkl := hk.le
    have hvi := hvl i hlt
    by_cases hkt : k < ats[i].vars.length
    · have hwk := wr1 (i := k) (by omega)
      cases h6 : inR ats[i].vars[k] 0 (IntKind.i64.wrap (n - 1))
      · have hq := hbad (atomOk_bad hkt h6)
        simp [hlt, hkt, s127_11, s127_26, ]
        refine call_f (VC.to (w_spec_l1In ats[i].vars[k] 0 (IntKind.i64.wrap (n - 1))) (show _ = V.d (.bool false) by rw [h6])) (by simp) rfl fun hs5 hh5 => ?_
        simp [hq]
      · refine anyQ fun Q => ?_
        simp [hlt, hkt, s127_11, s127_26, ]
        refine call_f (VC.to (w_spec_l1In ats[i].vars[k] 0 (IntKind.i64.wrap (n - 1))) (show _ = V.d (.bool true) by rw [h6])) (by simp) rfl fun hs5 hh5 => ?_
        simp at hh5
        simp [hwk, s127_11, s127_26, ]
        exact back (k + 1) (hk.step hkt h6) (by omega) rfl (by simp <;> omega) (by simp) (by simp)
    · have hao := atomOk_done hk (by omega) h4 h5
      simp [hlt, hkt, hwi, s127_11, s127_26, ]
      exact back (i + 1) (hi.step hlt hao) (by omega) rfl (by simp <;> omega) (by simp) (by simp)
  have hall := allTo_done hi.ok (by omega)
  simp [hlt, s127_11, s127_26, ]
  refine loop_rule (X := Nat) (UsTo n ats) (fun v => [(1, .ptr 1 0 0), (5, .d (.int .i64 v))]) (fun _ => [(1, some (.box [.d (.int .i64 n), .d (.pl (ats.map eAtom)), .d (.pl (out.map cI))]))]) (fun v => n.toNat - v) 0 .zero (by simp) (by simp) ?_
  intro v hs t m hv hh
  have hvn := hv.le
  by_cases hvt : v < n.toNat
  · have hwv := wr1 (i := v) (by omega)
    have hvt' : (v : Int) < n := by omega
    simp [hvt', s127_11, s127_26, ]
    refine loop_rule (X := Nat) (fun i => i ≤ ats.length) (fun i => [(1, .ptr 1 0 0), (5, .d (.int .i64 v)), (6, .d (.bool (hasTo ats v i))), (7, .d (.int .i64 i))]) (fun _ => [(1, some (.box [.d (.int .i64 n), .d (.pl (ats.map eAtom)), .d (.pl (out.map cI))]))]) (fun i => ats.length - i) 0 (by simp) (by simp [hasTo_zero]) (by simp) ?_
    intro i hs t m hi hh
    by_cases hlt : i < ats.length
    · have hwi := wr1 (i := i) (by omega)
      have hst := hasTo_step (v := (v : Int)) hlt
      refine anyQ fun Q => ?_
      cases h6 : hasTo ats v i
      · rw [h6, Bool.false_or] at hst
        simp [hlt, s127_11, s127_26, ]
        refine call_f (w_spec_ContainsVariable ats[i] v) (by simp) rfl fun hs5 hh5 => ?_
        simp at hh5
        simp only [List.contains_eq_mem] at hst
        simp [hwi, s127_11, s127_26, ]
        exact back (i + 1) (by omega) (by omega) rfl (by simp <;> omega) (by simp [hst]) (by simp)
      · rw [h6, Bool.true_or] at hst
        simp [hlt, hwi, s127_11, s127_26, ]
        exact back (i + 1) (by omega) (by omega) rfl (by simp <;> omega) (by simp [hst]) (by simp)
    · have hha := hasTo_all (l := ats) (v := (v : Int)) (i := i) (by omega)
      cases h7 : (varsIn ats).contains (v : Int)
      · rw [h7] at hha
        simp [hlt, hha, queryOk_u (q := ⟨n, ats, out⟩) (usesAll_bad hvt h7), s127_11, s127_26, ]
      · rw [h7] at hha
        simp [hlt, hha, hwv, s127_11, s127_26, ]
        exact back (v + 1) (hv.step hvt h7) (by omega) rfl (by simp <;> omega) (by simp) (by simp)
  have hus := hv.done (by omega)
  have hvt' : ¬ (v : Int) < n := by omega
  simp [hvt', s127_11, s127_26, ]
  refine loop_rule (X := Nat) (SetTo out n) (fun i => [(1, .ptr 1 0 0), (8, .d (.int .i64 i))]) (fun _ => [(1, some (.box [.d (.int .i64 n), .d (.pl (ats.map eAtom)), .d (.pl (out.map cI))]))]) (fun i => out.length - i) 0 .zero (by simp) (by simp) ?_
  intro i hs t m hi hh
  have hil := hi.le
  by_cases hlt : i < out.length
  · have hwi := wr1 (i := i) (by omega)
    simp [hlt, s127_11, s127_26, ]
    refine call_f (w_spec_l1In out[i] 0 (IntKind.i64.wrap (n - 1))) (by simp) rfl fun hs5 hh5 => ?_
    simp at hh5
    cases h6 : inR out[i] 0 (IntKind.i64.wrap (n - 1))
    · simp [queryOk_o (q := ⟨n, ats, out⟩) (setOf_bad1 hlt h6)]
    simp [hil, hlt, ← List.map_take, s127_11, s127_26, ]
    refine call_f (w_spec_l7Find (out.take i) out[i]) (by simp) rfl fun hs6 hh6 => ?_
    simp at hh6
    have hge := idxL_ge (out.take i) out[i]
    by_cases h7 : out[i] ∈ out.take i
    · have h8 : 0 ≤ idxL (out.take i) out[i] := by simpa [h7] using hge
      simp [h8, queryOk_o (q := ⟨n, ats, out⟩) (setOf_bad2 hlt h7)]
    · have h8 : ¬ 0 ≤ idxL (out.take i) out[i] := by simpa [h7] using hge
      simp [h8, hwi, s127_11, s127_26, ]
      exact back (i + 1) (hi.step hlt h6 h7) (by omega) rfl (by simp <;> omega) (by simp) (by simp)
  · have hd := hi.done (by omega)
    simp [hlt, queryOk_all (q := ⟨n, ats, out⟩) h1 h2 hd hall hus]
end

end Go.Proofs.YtggbpdjjlgejmaaGreat

