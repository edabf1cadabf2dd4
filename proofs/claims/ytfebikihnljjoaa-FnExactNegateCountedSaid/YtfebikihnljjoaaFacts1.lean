/-
  Facts1: a part of a proof of this seat: the value-level semantics of Go code without maps (Vs), its walk rules (Vt), the frame of a row (Vr), facts of types, schedules, walks. It holds of every program and state that its hypotheses name.
-/
import Derived.Test.YtfebikihnljjoaaProg
import Derived.KernelRfl
import Derived.Test.YtfebikihnljjoaaVt4
set_option linter.unusedSimpArgs false
set_option linter.unusedVariables false
namespace Go.Proofs.Ytfebikihnljjoaa
open Go.Vs Go.Proofs

theorem tsz3 : tsz Try.prog 3 = some 1 := by kernel_rfl
theorem tsz9 : tsz Try.prog 9 = some 1 := by kernel_rfl
theorem tsz24 : tsz Try.prog 24 = some 1 := by kernel_rfl
theorem tsz26 : tsz Try.prog 26 = some 1 := by kernel_rfl
theorem tsz29 : tsz Try.prog 29 = some 1 := by kernel_rfl
theorem tsz31 : tsz Try.prog 31 = some 1 := by kernel_rfl
theorem tsz38 : tsz Try.prog 38 = some 1 := by kernel_rfl
theorem tsz39 : tsz Try.prog 39 = some 1 := by kernel_rfl
theorem tsz41 : tsz Try.prog 41 = some 3 := by kernel_rfl
theorem tsz44 : tsz Try.prog 44 = some 3 := by kernel_rfl
theorem tsz55 : tsz Try.prog 55 = some 2 := by kernel_rfl
theorem tsz62 : tsz Try.prog 62 = some 2 := by kernel_rfl
theorem tsz71 : tsz Try.prog 71 = some 2 := by kernel_rfl
theorem tagg3 : tagg Try.prog 3 = some false := by kernel_rfl
theorem tagg9 : tagg Try.prog 9 = some false := by kernel_rfl
theorem tagg24 : tagg Try.prog 24 = some false := by kernel_rfl
theorem tagg26 : tagg Try.prog 26 = some true := by kernel_rfl
theorem tagg29 : tagg Try.prog 29 = some false := by kernel_rfl
theorem tagg31 : tagg Try.prog 31 = some true := by kernel_rfl
theorem tagg38 : tagg Try.prog 38 = some false := by kernel_rfl
theorem tagg39 : tagg Try.prog 39 = some false := by kernel_rfl
theorem tagg41 : tagg Try.prog 41 = some true := by kernel_rfl
theorem tagg44 : tagg Try.prog 44 = some true := by kernel_rfl
theorem tagg55 : tagg Try.prog 55 = some true := by kernel_rfl
theorem tagg62 : tagg Try.prog 62 = some true := by kernel_rfl
theorem tagg71 : tagg Try.prog 71 = some true := by kernel_rfl
theorem tzero3 : tzero Try.prog 3 = some [.int .i64 0] := by kernel_rfl
theorem tzero31 : tzero Try.prog 31 = some [.sl none none []] := by kernel_rfl
theorem tzero39 : tzero Try.prog 39 = some [.sl none none []] := by kernel_rfl
theorem tzero44 : tzero Try.prog 44 = some [.int .i64 0, .sl none none [], .sl none none []] := by kernel_rfl
theorem tzero55 : tzero Try.prog 55 = some [.str [], .str []] := by kernel_rfl
theorem tzero62 : tzero Try.prog 62 = some [.int .i64 0, .sl none none []] := by kernel_rfl
theorem tslice24 : tslice Try.prog 24 = some (71, 2, 32) := by kernel_rfl
theorem telem24 : telem Try.prog 24 = some 71 := by kernel_rfl
theorem tslice29 : tslice Try.prog 29 = some (55, 2, 32) := by kernel_rfl
theorem telem29 : telem Try.prog 29 = some 55 := by kernel_rfl
theorem tslice38 : tslice Try.prog 38 = some (39, 1, 24) := by kernel_rfl
theorem telem38 : telem Try.prog 38 = some 39 := by kernel_rfl
theorem tslice39 : tslice Try.prog 39 = some (3, 1, 8) := by kernel_rfl
theorem telem39 : telem Try.prog 39 = some 3 := by kernel_rfl
theorem tslice75 : tslice Try.prog 75 = some (5, 1, 1) := by kernel_rfl
theorem telem75 : telem Try.prog 75 = some 5 := by kernel_rfl
theorem tstr9 : tstr Try.prog 9 = some true := by kernel_rfl
theorem tstr24 : tstr Try.prog 24 = some false := by kernel_rfl
theorem tstr29 : tstr Try.prog 29 = some false := by kernel_rfl
theorem tstr38 : tstr Try.prog 38 = some false := by kernel_rfl
theorem tstr39 : tstr Try.prog 39 = some false := by kernel_rfl
theorem tfld31 : tfld Try.prog 31 = true := by kernel_rfl
theorem tfld44 : tfld Try.prog 44 = true := by kernel_rfl
theorem tfld55 : tfld Try.prog 55 = true := by kernel_rfl
theorem tfld62 : tfld Try.prog 62 = true := by kernel_rfl
theorem foff26_0 : foff Try.prog 26 0 = some (0, 1) := by kernel_rfl
theorem foff31_0 : foff Try.prog 31 0 = some (0, 1) := by kernel_rfl
theorem foff41_0 : foff Try.prog 41 0 = some (0, 1) := by kernel_rfl
theorem foff41_1 : foff Try.prog 41 1 = some (1, 1) := by kernel_rfl
theorem foff41_2 : foff Try.prog 41 2 = some (2, 1) := by kernel_rfl
theorem foff44_0 : foff Try.prog 44 0 = some (0, 1) := by kernel_rfl
theorem foff44_1 : foff Try.prog 44 1 = some (1, 1) := by kernel_rfl
theorem foff44_2 : foff Try.prog 44 2 = some (2, 1) := by kernel_rfl
theorem foff55_0 : foff Try.prog 55 0 = some (0, 1) := by kernel_rfl
theorem foff55_1 : foff Try.prog 55 1 = some (1, 1) := by kernel_rfl
theorem foff62_0 : foff Try.prog 62 0 = some (0, 1) := by kernel_rfl
theorem foff62_1 : foff Try.prog 62 1 = some (1, 1) := by kernel_rfl
theorem foff71_0 : foff Try.prog 71 0 = some (0, 1) := by kernel_rfl
theorem foff71_1 : foff Try.prog 71 1 = some (1, 1) := by kernel_rfl
attribute [simp] tsz3 tsz9 tsz24 tsz26 tsz29 tsz31 tsz38 tsz39 tsz41 tsz44 tsz55 tsz62 tsz71 tagg3 tagg9 tagg24 tagg26 tagg29 tagg31 tagg38 tagg39 tagg41 tagg44 tagg55 tagg62 tagg71 tzero3 tzero31 tzero39 tzero44 tzero55 tzero62 tslice24 telem24 tslice29 telem29 tslice38 telem38 tslice39 telem39 tslice75 telem75 tstr9 tstr24 tstr29 tstr38 tstr39 tfld31 tfld44 tfld55 tfld62 foff26_0 foff31_0 foff41_0 foff41_1 foff41_2 foff44_0 foff44_1 foff44_2 foff55_0 foff55_1 foff62_0 foff62_1 foff71_0 foff71_1
end Go.Proofs.Ytfebikihnljjoaa
