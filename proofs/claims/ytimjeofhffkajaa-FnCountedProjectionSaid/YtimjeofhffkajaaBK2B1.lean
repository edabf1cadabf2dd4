/-
  BK2B1: a part of a proof of this seat: the value-level semantics of Go code without maps, its walk rules, the frame of a row, facts of types, schedules, walks, plain lemmas (Facts1 Sched1 H0 HP1 HP2 H1 HP3 P1 P1b P1c P1d P1e P2 K1 K2 M1 K3 P5 P5b K4 K5 K6 K7 K8 K9 S3 E1 S9 S10 S11 P5c P5d K10 K11 K12 S6 S12 S13 P5e LK1). It holds of every program and state that its hypotheses name.
-/
import Derived.Test.YtimjeofhffkajaaA4
import Derived.Test.YtimjeofhffkajaaProg
import Derived.KernelRfl
set_option linter.unusedSimpArgs false
set_option linter.unusedVariables false
set_option linter.unnecessarySimpa false
namespace Go.Proofs.Ytimjeofhffkajaa
open Go.Vs Go.Proofs

theorem tsz3 : tsz Try.prog 3 = some 1 := by kernel_rfl
theorem tsz5 : tsz Try.prog 5 = some 1 := by kernel_rfl
theorem tsz22 : tsz Try.prog 22 = some 1 := by kernel_rfl
theorem tsz24 : tsz Try.prog 24 = some 1 := by kernel_rfl
theorem tsz25 : tsz Try.prog 25 = some 1 := by kernel_rfl
theorem tsz27 : tsz Try.prog 27 = some 3 := by kernel_rfl
theorem tsz40 : tsz Try.prog 40 = some 2 := by kernel_rfl
theorem tagg3 : tagg Try.prog 3 = some false := by kernel_rfl
theorem tagg5 : tagg Try.prog 5 = some false := by kernel_rfl
theorem tagg22 : tagg Try.prog 22 = some false := by kernel_rfl
theorem tagg24 : tagg Try.prog 24 = some false := by kernel_rfl
theorem tagg25 : tagg Try.prog 25 = some false := by kernel_rfl
theorem tagg27 : tagg Try.prog 27 = some true := by kernel_rfl
theorem tagg40 : tagg Try.prog 40 = some true := by kernel_rfl
theorem tzero3 : tzero Try.prog 3 = some [.int .i64 0] := by kernel_rfl
theorem tzero27 : tzero Try.prog 27 = some [.int .i64 0, .sl none none [], .sl none none []] := by kernel_rfl
theorem tzero40 : tzero Try.prog 40 = some [.int .i64 0, .sl none none []] := by kernel_rfl
theorem tzero66 : tzero Try.prog 66 = some [.sl none none [], .int .i64 0, .int .i64 0] := by kernel_rfl
theorem tslice22 : tslice Try.prog 22 = some (5, 1, 1) := by kernel_rfl
theorem telem22 : telem Try.prog 22 = some 5 := by kernel_rfl
theorem tslice24 : tslice Try.prog 24 = some (25, 1, 24) := by kernel_rfl
theorem telem24 : telem Try.prog 24 = some 25 := by kernel_rfl
theorem tslice25 : tslice Try.prog 25 = some (3, 1, 8) := by kernel_rfl
theorem telem25 : telem Try.prog 25 = some 3 := by kernel_rfl
theorem tstr22 : tstr Try.prog 22 = some false := by kernel_rfl
theorem tstr24 : tstr Try.prog 24 = some false := by kernel_rfl
theorem tstr25 : tstr Try.prog 25 = some false := by kernel_rfl
theorem tfld27 : tfld Try.prog 27 = true := by kernel_rfl
theorem tfld40 : tfld Try.prog 40 = true := by kernel_rfl
theorem tfld66 : tfld Try.prog 66 = true := by kernel_rfl
theorem foff27_0 : foff Try.prog 27 0 = some (0, 1) := by kernel_rfl
theorem foff27_1 : foff Try.prog 27 1 = some (1, 1) := by kernel_rfl
theorem foff27_2 : foff Try.prog 27 2 = some (2, 1) := by kernel_rfl
theorem foff40_0 : foff Try.prog 40 0 = some (0, 1) := by kernel_rfl
theorem foff40_1 : foff Try.prog 40 1 = some (1, 1) := by kernel_rfl
theorem foff66_0 : foff Try.prog 66 0 = some (0, 1) := by kernel_rfl
theorem foff66_1 : foff Try.prog 66 1 = some (1, 1) := by kernel_rfl
theorem foff66_2 : foff Try.prog 66 2 = some (2, 1) := by kernel_rfl
attribute [simp] tsz3 tsz5 tsz22 tsz24 tsz25 tsz27 tsz40 tagg3 tagg5 tagg22 tagg24 tagg25 tagg27 tagg40 tzero3 tzero27 tzero40 tzero66 tslice22 telem22 tslice24 telem24 tslice25 telem25 tstr22 tstr24 tstr25 tfld27 tfld40 tfld66 foff27_0 foff27_1 foff27_2 foff40_0 foff40_1 foff66_0 foff66_1 foff66_2
end Go.Proofs.Ytimjeofhffkajaa

namespace Go.Proofs.Ytimjeofhffkajaa
open Go.Vs Go.Proofs Go

/-- the functions that write what they are handed -/
def E : Md := ⟨fun f => [22, 23, 24, 26, 38, 43, 45, 51, 53].contains f, false⟩
/-- as E; slices are known by elements only -/
def EP : Md := ⟨E.e, true⟩
@[simp] theorem E_p : E.p = false := Eq.trans rfl rfl
@[simp] theorem EP_p : EP.p = true := Eq.trans rfl rfl

theorem E22 : E 22 = true := rfl
theorem EP22 : EP 22 = true := rfl
theorem E23 : E 23 = true := rfl
theorem EP23 : EP 23 = true := rfl
theorem E24 : E 24 = true := rfl
theorem EP24 : EP 24 = true := rfl
theorem E26 : E 26 = true := rfl
theorem EP26 : EP 26 = true := rfl
theorem E38 : E 38 = true := rfl
theorem EP38 : EP 38 = true := rfl
theorem E43 : E 43 = true := rfl
theorem EP43 : EP 43 = true := rfl
theorem E45 : E 45 = true := rfl
theorem EP45 : EP 45 = true := rfl
theorem E51 : E 51 = true := rfl
theorem EP51 : EP 51 = true := rfl
theorem E53 : E 53 = true := rfl
theorem EP53 : EP 53 = true := rfl
/-- the orders of laws.FnCountedRelations -/
def s3 (i : Nat) : Tr := if i = 7 then .seq [0, 1, 2, 3, 4, 5, 6, 7, 8, 9, 10, 11, 12, 13, 14, 15, 17, 16, 18, 19, 20] .nil else if i = 11 then .seq [0, 1] (.both (.seq [2] (.both (.seq [3, 4, 5, 6, 7, 8, 9] .nil) (.seq [7, 3, 4, 5, 6, 8, 9] .nil))) (.seq [7, 2, 3, 4, 5, 6, 8, 9] .nil)) else if i = 12 then .seq [0, 1] (.both (.seq [2] (.both (.seq [3, 4, 5, 6, 7, 8, 9] .nil) (.seq [7, 3, 4, 5, 6, 8, 9] .nil))) (.seq [7, 2, 3, 4, 5, 6, 8, 9] .nil)) else if i = 16 then .seq [0, 1, 2, 3, 4, 5, 7, 8, 9, 10, 11, 12, 13, 14, 15, 16, 17, 6, 18, 19, 20] .nil else .nil
theorem s3_7 : s3 7 = .seq [0, 1, 2, 3, 4, 5, 6, 7, 8, 9, 10, 11, 12, 13, 14, 15, 17, 16, 18, 19, 20] .nil := rfl
theorem s3_11 : s3 11 = .seq [0, 1] (.both (.seq [2] (.both (.seq [3, 4, 5, 6, 7, 8, 9] .nil) (.seq [7, 3, 4, 5, 6, 8, 9] .nil))) (.seq [7, 2, 3, 4, 5, 6, 8, 9] .nil)) := rfl
theorem s3_12 : s3 12 = .seq [0, 1] (.both (.seq [2] (.both (.seq [3, 4, 5, 6, 7, 8, 9] .nil) (.seq [7, 3, 4, 5, 6, 8, 9] .nil))) (.seq [7, 2, 3, 4, 5, 6, 8, 9] .nil)) := rfl
theorem s3_16 : s3 16 = .seq [0, 1, 2, 3, 4, 5, 7, 8, 9, 10, 11, 12, 13, 14, 15, 16, 17, 6, 18, 19, 20] .nil := rfl
theorem s3_ok : okCode E 132 s3 (Try.f3.body.getD .skip) = true := by kernel_rfl
/-- the orders of laws.FnCountedProjection -/
def s4 (i : Nat) : Tr := if i = 26 then .seq [0, 1, 2, 3, 4, 5, 6, 7, 8, 9, 10, 11, 12, 13, 14, 15, 16, 17, 18, 19, 20, 21, 22, 23, 24, 25, 26] .nil else .nil
theorem s4_26 : s4 26 = .seq [0, 1, 2, 3, 4, 5, 6, 7, 8, 9, 10, 11, 12, 13, 14, 15, 16, 17, 18, 19, 20, 21, 22, 23, 24, 25, 26] .nil := rfl
theorem s4_ok : okCode E 130 s4 (Try.f4.body.getD .skip) = true := by kernel_rfl
/-- the orders of laws.big -/
def s5 (_ : Nat) : Tr := .nil
theorem s5_ok : okCode E 6 s5 (Try.f5.body.getD .skip) = true := by kernel_rfl
/-- the orders of spec.DrawAddCounted -/
def s6 (i : Nat) : Tr := if i = 4 then .seq [1] (.both (.seq [0, 2, 3, 4] .nil) (.seq [2, 0, 3, 4] .nil)) else if i = 5 then .seq [1, 2, 3, 4, 5] (.both (.seq [0, 6, 7, 8] .nil) (.seq [6, 0, 7, 8] .nil)) else .nil
theorem s6_4 : s6 4 = .seq [1] (.both (.seq [0, 2, 3, 4] .nil) (.seq [2, 0, 3, 4] .nil)) := rfl
theorem s6_5 : s6 5 = .seq [1, 2, 3, 4, 5] (.both (.seq [0, 6, 7, 8] .nil) (.seq [6, 0, 7, 8] .nil)) := rfl
theorem s6_ok : okCode E 22 s6 (Try.f6.body.getD .skip) = true := by kernel_rfl
/-- the orders of impl.AddCounted -/
def s7 (_ : Nat) : Tr := .nil
theorem s7_ok : okCode E 57 s7 (Try.f7.body.getD .skip) = true := by kernel_rfl
/-- the orders of spec.AddCounted -/
def s8 (i : Nat) : Tr := if i = 3 then .seq [0, 1, 3, 4, 6, 7, 10, 11, 13, 14] (.both (.seq [2] (.both (.app 5 [25, 31, 35, 38] (.both (.app 8 [25, 35, 38] (.both (.seq [9] (.both (.app 12 [25, 38] (.both (.app 15 [25] (.both (.seq [16, 17, 18, 19, 20, 21, 22] .nil) (.seq [20, 16, 17, 18, 19, 21, 22] .nil))) (.seq [20] (.app 15 [25] (.seq [16, 17, 18, 19, 21, 22] .nil))))) (.seq [20] (.app 12 [25, 38] (.app 15 [25] (.seq [16, 17, 18, 19, 21, 22] .nil)))))) (.seq [20, 9] (.app 12 [25, 38] (.app 15 [25] (.seq [16, 17, 18, 19, 21, 22] .nil)))))) (.both (.seq [9] (.both (.app 8 [25, 35, 38] (.both (.app 12 [25, 38] (.both (.app 15 [25] (.both (.seq [16, 17, 18, 19, 20, 21, 22] .nil) (.seq [20, 16, 17, 18, 19, 21, 22] .nil))) (.seq [20] (.app 15 [25] (.seq [16, 17, 18, 19, 21, 22] .nil))))) (.seq [20] (.app 12 [25, 38] (.app 15 [25] (.seq [16, 17, 18, 19, 21, 22] .nil)))))) (.seq [20] (.app 8 [25, 35, 38] (.app 12 [25, 38] (.app 15 [25] (.seq [16, 17, 18, 19, 21, 22] .nil))))))) (.seq [20] (.both (.app 8 [25, 35, 38] (.seq [9] (.app 12 [25, 38] (.app 15 [25] (.seq [16, 17, 18, 19, 21, 22] .nil))))) (.seq [9] (.app 8 [25, 35, 38] (.app 12 [25, 38] (.app 15 [25] (.seq [16, 17, 18, 19, 21, 22] .nil)))))))))) (.both (.seq [9] (.both (.app 5 [25, 31, 35, 38] (.both (.app 8 [25, 35, 38] (.both (.app 12 [25, 38] (.both (.app 15 [25] (.both (.seq [16, 17, 18, 19, 20, 21, 22] .nil) (.seq [20, 16, 17, 18, 19, 21, 22] .nil))) (.seq [20] (.app 15 [25] (.seq [16, 17, 18, 19, 21, 22] .nil))))) (.seq [20] (.app 12 [25, 38] (.app 15 [25] (.seq [16, 17, 18, 19, 21, 22] .nil)))))) (.seq [20] (.app 8 [25, 35, 38] (.app 12 [25, 38] (.app 15 [25] (.seq [16, 17, 18, 19, 21, 22] .nil))))))) (.seq [20] (.app 5 [25, 31, 35, 38] (.app 8 [25, 35, 38] (.app 12 [25, 38] (.app 15 [25] (.seq [16, 17, 18, 19, 21, 22] .nil)))))))) (.seq [20] (.both (.app 5 [25, 31, 35, 38] (.both (.app 8 [25, 35, 38] (.seq [9] (.app 12 [25, 38] (.app 15 [25] (.seq [16, 17, 18, 19, 21, 22] .nil))))) (.seq [9] (.app 8 [25, 35, 38] (.app 12 [25, 38] (.app 15 [25] (.seq [16, 17, 18, 19, 21, 22] .nil))))))) (.seq [9] (.app 5 [25, 31, 35, 38] (.app 8 [25, 35, 38] (.app 12 [25, 38] (.app 15 [25] (.seq [16, 17, 18, 19, 21, 22] .nil))))))))))) (.both (.seq [9] (.both (.seq [2] (.both (.app 5 [25, 31, 35, 38] (.both (.app 8 [25, 35, 38] (.both (.app 12 [25, 38] (.both (.app 15 [25] (.both (.seq [16, 17, 18, 19, 20, 21, 22] .nil) (.seq [20, 16, 17, 18, 19, 21, 22] .nil))) (.seq [20] (.app 15 [25] (.seq [16, 17, 18, 19, 21, 22] .nil))))) (.seq [20] (.app 12 [25, 38] (.app 15 [25] (.seq [16, 17, 18, 19, 21, 22] .nil)))))) (.seq [20] (.app 8 [25, 35, 38] (.app 12 [25, 38] (.app 15 [25] (.seq [16, 17, 18, 19, 21, 22] .nil))))))) (.seq [20] (.app 5 [25, 31, 35, 38] (.app 8 [25, 35, 38] (.app 12 [25, 38] (.app 15 [25] (.seq [16, 17, 18, 19, 21, 22] .nil)))))))) (.seq [20, 2] (.app 5 [25, 31, 35, 38] (.app 8 [25, 35, 38] (.app 12 [25, 38] (.app 15 [25] (.seq [16, 17, 18, 19, 21, 22] .nil)))))))) (.seq [20] (.both (.seq [2] (.both (.app 5 [25, 31, 35, 38] (.both (.app 8 [25, 35, 38] (.seq [9] (.app 12 [25, 38] (.app 15 [25] (.seq [16, 17, 18, 19, 21, 22] .nil))))) (.seq [9] (.app 8 [25, 35, 38] (.app 12 [25, 38] (.app 15 [25] (.seq [16, 17, 18, 19, 21, 22] .nil))))))) (.seq [9] (.app 5 [25, 31, 35, 38] (.app 8 [25, 35, 38] (.app 12 [25, 38] (.app 15 [25] (.seq [16, 17, 18, 19, 21, 22] .nil)))))))) (.seq [9, 2] (.app 5 [25, 31, 35, 38] (.app 8 [25, 35, 38] (.app 12 [25, 38] (.app 15 [25] (.seq [16, 17, 18, 19, 21, 22] .nil)))))))))) else .nil
theorem s8_3 : s8 3 = .seq [0, 1, 3, 4, 6, 7, 10, 11, 13, 14] (.both (.seq [2] (.both (.app 5 [25, 31, 35, 38] (.both (.app 8 [25, 35, 38] (.both (.seq [9] (.both (.app 12 [25, 38] (.both (.app 15 [25] (.both (.seq [16, 17, 18, 19, 20, 21, 22] .nil) (.seq [20, 16, 17, 18, 19, 21, 22] .nil))) (.seq [20] (.app 15 [25] (.seq [16, 17, 18, 19, 21, 22] .nil))))) (.seq [20] (.app 12 [25, 38] (.app 15 [25] (.seq [16, 17, 18, 19, 21, 22] .nil)))))) (.seq [20, 9] (.app 12 [25, 38] (.app 15 [25] (.seq [16, 17, 18, 19, 21, 22] .nil)))))) (.both (.seq [9] (.both (.app 8 [25, 35, 38] (.both (.app 12 [25, 38] (.both (.app 15 [25] (.both (.seq [16, 17, 18, 19, 20, 21, 22] .nil) (.seq [20, 16, 17, 18, 19, 21, 22] .nil))) (.seq [20] (.app 15 [25] (.seq [16, 17, 18, 19, 21, 22] .nil))))) (.seq [20] (.app 12 [25, 38] (.app 15 [25] (.seq [16, 17, 18, 19, 21, 22] .nil)))))) (.seq [20] (.app 8 [25, 35, 38] (.app 12 [25, 38] (.app 15 [25] (.seq [16, 17, 18, 19, 21, 22] .nil))))))) (.seq [20] (.both (.app 8 [25, 35, 38] (.seq [9] (.app 12 [25, 38] (.app 15 [25] (.seq [16, 17, 18, 19, 21, 22] .nil))))) (.seq [9] (.app 8 [25, 35, 38] (.app 12 [25, 38] (.app 15 [25] (.seq [16, 17, 18, 19, 21, 22] .nil)))))))))) (.both (.seq [9] (.both (.app 5 [25, 31, 35, 38] (.both (.app 8 [25, 35, 38] (.both (.app 12 [25, 38] (.both (.app 15 [25] (.both (.seq [16, 17, 18, 19, 20, 21, 22] .nil) (.seq [20, 16, 17, 18, 19, 21, 22] .nil))) (.seq [20] (.app 15 [25] (.seq [16, 17, 18, 19, 21, 22] .nil))))) (.seq [20] (.app 12 [25, 38] (.app 15 [25] (.seq [16, 17, 18, 19, 21, 22] .nil)))))) (.seq [20] (.app 8 [25, 35, 38] (.app 12 [25, 38] (.app 15 [25] (.seq [16, 17, 18, 19, 21, 22] .nil))))))) (.seq [20] (.app 5 [25, 31, 35, 38] (.app 8 [25, 35, 38] (.app 12 [25, 38] (.app 15 [25] (.seq [16, 17, 18, 19, 21, 22] .nil)))))))) (.seq [20] (.both (.app 5 [25, 31, 35, 38] (.both (.app 8 [25, 35, 38] (.seq [9] (.app 12 [25, 38] (.app 15 [25] (.seq [16, 17, 18, 19, 21, 22] .nil))))) (.seq [9] (.app 8 [25, 35, 38] (.app 12 [25, 38] (.app 15 [25] (.seq [16, 17, 18, 19, 21, 22] .nil))))))) (.seq [9] (.app 5 [25, 31, 35, 38] (.app 8 [25, 35, 38] (.app 12 [25, 38] (.app 15 [25] (.seq [16, 17, 18, 19, 21, 22] .nil))))))))))) (.both (.seq [9] (.both (.seq [2] (.both (.app 5 [25, 31, 35, 38] (.both (.app 8 [25, 35, 38] (.both (.app 12 [25, 38] (.both (.app 15 [25] (.both (.seq [16, 17, 18, 19, 20, 21, 22] .nil) (.seq [20, 16, 17, 18, 19, 21, 22] .nil))) (.seq [20] (.app 15 [25] (.seq [16, 17, 18, 19, 21, 22] .nil))))) (.seq [20] (.app 12 [25, 38] (.app 15 [25] (.seq [16, 17, 18, 19, 21, 22] .nil)))))) (.seq [20] (.app 8 [25, 35, 38] (.app 12 [25, 38] (.app 15 [25] (.seq [16, 17, 18, 19, 21, 22] .nil))))))) (.seq [20] (.app 5 [25, 31, 35, 38] (.app 8 [25, 35, 38] (.app 12 [25, 38] (.app 15 [25] (.seq [16, 17, 18, 19, 21, 22] .nil)))))))) (.seq [20, 2] (.app 5 [25, 31, 35, 38] (.app 8 [25, 35, 38] (.app 12 [25, 38] (.app 15 [25] (.seq [16, 17, 18, 19, 21, 22] .nil)))))))) (.seq [20] (.both (.seq [2] (.both (.app 5 [25, 31, 35, 38] (.both (.app 8 [25, 35, 38] (.seq [9] (.app 12 [25, 38] (.app 15 [25] (.seq [16, 17, 18, 19, 21, 22] .nil))))) (.seq [9] (.app 8 [25, 35, 38] (.app 12 [25, 38] (.app 15 [25] (.seq [16, 17, 18, 19, 21, 22] .nil))))))) (.seq [9] (.app 5 [25, 31, 35, 38] (.app 8 [25, 35, 38] (.app 12 [25, 38] (.app 15 [25] (.seq [16, 17, 18, 19, 21, 22] .nil)))))))) (.seq [9, 2] (.app 5 [25, 31, 35, 38] (.app 8 [25, 35, 38] (.app 12 [25, 38] (.app 15 [25] (.seq [16, 17, 18, 19, 21, 22] .nil)))))))))) := rfl
theorem s8_ok : okCode E 46 s8 (Try.f8.body.getD .skip) = true := by kernel_rfl
/-- the orders of spec.EqualCounted -/
def s9 (_ : Nat) : Tr := .nil
theorem s9_ok : okCode E 27 s9 (Try.f9.body.getD .skip) = true := by kernel_rfl
/-- the orders of impl.IsValidCounted -/
def s10 (_ : Nat) : Tr := .nil
theorem s10_ok : okCode E 35 s10 (Try.f10.body.getD .skip) = true := by kernel_rfl
/-- the orders of spec.IsValidCounted -/
def s11 (_ : Nat) : Tr := .nil
theorem s11_ok : okCode E 42 s11 (Try.f11.body.getD .skip) = true := by kernel_rfl
/-- the orders of impl.NegateCounted -/
def s12 (i : Nat) : Tr := if i = 5 then .seq [0, 1, 2, 3, 4, 5, 6, 7, 8, 9, 10] .nil else .nil
theorem s12_5 : s12 5 = .seq [0, 1, 2, 3, 4, 5, 6, 7, 8, 9, 10] .nil := rfl
theorem s12_ok : okCode E 25 s12 (Try.f12.body.getD .skip) = true := by kernel_rfl
/-- the orders of impl.CountOfRow -/
def s13 (_ : Nat) : Tr := .nil
theorem s13_ok : okCode E 26 s13 (Try.f13.body.getD .skip) = true := by kernel_rfl
/-- the orders of spec.CountOfRow -/
def s14 (_ : Nat) : Tr := .nil
theorem s14_ok : okCode E 27 s14 (Try.f14.body.getD .skip) = true := by kernel_rfl
/-- the orders of impl.EqualCounted -/
def s15 (_ : Nat) : Tr := .nil
theorem s15_ok : okCode E 24 s15 (Try.f15.body.getD .skip) = true := by kernel_rfl
/-- the orders of spec.DrawProjectCounted -/
def s16 (_ : Nat) : Tr := .nil
theorem s16_ok : okCode E 29 s16 (Try.f16.body.getD .skip) = true := by kernel_rfl
/-- the orders of impl.ProjectCounted -/
def s17 (i : Nat) : Tr := if i = 7 then .seq [0, 1, 3, 4, 5, 6, 7, 2, 8] .nil else .nil
theorem s17_7 : s17 7 = .seq [0, 1, 3, 4, 5, 6, 7, 2, 8] .nil := rfl
theorem s17_ok : okCode E 49 s17 (Try.f17.body.getD .skip) = true := by kernel_rfl
/-- the orders of spec.ProjectCounted -/
def s18 (i : Nat) : Tr := if i = 4 then .seq [0, 1, 2, 3, 4, 5, 6, 7, 8] .nil else .nil
theorem s18_4 : s18 4 = .seq [0, 1, 2, 3, 4, 5, 6, 7, 8] .nil := rfl
theorem s18_ok : okCode E 65 s18 (Try.f18.body.getD .skip) = true := by kernel_rfl
/-- the orders of impl.RowsOfCounted -/
def s19 (i : Nat) : Tr := if i = 9 then .seq [0, 1, 2, 3, 4, 5, 6, 7] .nil else .nil
theorem s19_9 : s19 9 = .seq [0, 1, 2, 3, 4, 5, 6, 7] .nil := rfl
theorem s19_ok : okCode E 27 s19 (Try.f19.body.getD .skip) = true := by kernel_rfl
/-- the orders of spec.EqualRelations -/
def s20 (i : Nat) : Tr := if i = 6 then .seq [0, 1, 2, 3, 4, 5, 6, 7, 8, 9, 10, 11] .nil else .nil
theorem s20_6 : s20 6 = .seq [0, 1, 2, 3, 4, 5, 6, 7, 8, 9, 10, 11] .nil := rfl
theorem s20_ok : okCode E 39 s20 (Try.f20.body.getD .skip) = true := by kernel_rfl
/-- the orders of spec.l1New -/
def s21 (_ : Nat) : Tr := .nil
theorem s21_ok : okCode E 32 s21 (Try.f21.body.getD .skip) = true := by kernel_rfl
/-- the orders of spec.l27Any -/
def s22 (i : Nat) : Tr := if i = 6 then .seq [0, 2] (.both (.seq [1, 3, 4, 5, 6] .nil) (.seq [3] (.both (.seq [1, 4, 5, 6] .nil) (.seq [4, 1, 5, 6] .nil)))) else if i = 10 then .seq [0, 1, 2, 3, 4, 5, 6, 7, 8, 9] .nil else .nil
theorem s22_6 : s22 6 = .seq [0, 2] (.both (.seq [1, 3, 4, 5, 6] .nil) (.seq [3] (.both (.seq [1, 4, 5, 6] .nil) (.seq [4, 1, 5, 6] .nil)))) := rfl
theorem s22_10 : s22 10 = .seq [0, 1, 2, 3, 4, 5, 6, 7, 8, 9] .nil := rfl
theorem s22_ok : okCode E 46 s22 (Try.f22.body.getD .skip) = true := by kernel_rfl
/-- the orders of spec.l1Once -/
def s23 (_ : Nat) : Tr := .nil
theorem s23_ok : okCode E 9 s23 (Try.f23.body.getD .skip) = true := by kernel_rfl
/-- the orders of spec.l27Z -/
def s24 (i : Nat) : Tr := if i = 5 then .seq [0, 2, 3] (.both (.seq [1, 4, 5, 6, 7] .nil) (.seq [4] (.both (.seq [1, 5, 6, 7] .nil) (.seq [5, 1, 6, 7] .nil)))) else .nil
theorem s24_5 : s24 5 = .seq [0, 2, 3] (.both (.seq [1, 4, 5, 6, 7] .nil) (.seq [4] (.both (.seq [1, 5, 6, 7] .nil) (.seq [5, 1, 6, 7] .nil)))) := rfl
theorem s24_ok : okCode E 30 s24 (Try.f24.body.getD .skip) = true := by kernel_rfl
/-- the orders of impl.copyCounted -/
def s25 (i : Nat) : Tr := if i = 1 then .seq [0, 1, 2, 3, 5, 6, 4, 7, 8, 9] .nil else .nil
theorem s25_1 : s25 1 = .seq [0, 1, 2, 3, 5, 6, 4, 7, 8, 9] .nil := rfl
theorem s25_ok : okCode E 12 s25 (Try.f25.body.getD .skip) = true := by kernel_rfl
/-- the orders of impl.tally -/
def s26 (i : Nat) : Tr := if i = 3 then .seq [0, 2, 3, 4, 5, 6, 7, 9, 13, 14, 15, 16, 17, 18, 1] (.app 8 [43] (.seq [10, 11] (.app 12 [43] (.seq [19, 20, 21, 22] .nil)))) else if i = 4 then .seq [0, 1, 2, 3, 4, 5, 6, 8, 11, 12, 13, 14, 15, 16] (.both (.seq [7, 9] (.app 10 [63] (.seq [17, 18, 19, 20] .nil))) (.seq [9, 7] (.app 10 [63] (.seq [17, 18, 19, 20] .nil)))) else .nil
theorem s26_3 : s26 3 = .seq [0, 2, 3, 4, 5, 6, 7, 9, 13, 14, 15, 16, 17, 18, 1] (.app 8 [43] (.seq [10, 11] (.app 12 [43] (.seq [19, 20, 21, 22] .nil)))) := rfl
theorem s26_4 : s26 4 = .seq [0, 1, 2, 3, 4, 5, 6, 8, 11, 12, 13, 14, 15, 16] (.both (.seq [7, 9] (.app 10 [63] (.seq [17, 18, 19, 20] .nil))) (.seq [9, 7] (.app 10 [63] (.seq [17, 18, 19, 20] .nil)))) := rfl
theorem s26_ok : okCode E 70 s26 (Try.f26.body.getD .skip) = true := by kernel_rfl
/-- the orders of impl.settled -/
def s27 (i : Nat) : Tr := if i = 6 then .seq [0, 1, 2, 3, 4, 5, 6, 7, 8, 9, 10] .nil else .nil
theorem s27_6 : s27 6 = .seq [0, 1, 2, 3, 4, 5, 6, 7, 8, 9, 10] .nil := rfl
theorem s27_ok : okCode E 37 s27 (Try.f27.body.getD .skip) = true := by kernel_rfl
/-- the orders of spec.l27Sum -/
def s28 (i : Nat) : Tr := if i = 8 then .seq [0, 1, 2, 3, 4, 5, 6, 7, 8, 9, 10] .nil else if i = 9 then .seq [0, 1, 2, 3, 4, 5, 6, 7, 8, 9, 10, 11, 12] .nil else if i = 15 then .seq [0, 1, 2, 3, 4, 5, 6, 7, 8, 9, 10] .nil else if i = 16 then .seq [0, 1, 2, 3, 4, 5, 6, 7, 8, 9] .nil else .nil
theorem s28_8 : s28 8 = .seq [0, 1, 2, 3, 4, 5, 6, 7, 8, 9, 10] .nil := rfl
theorem s28_9 : s28 9 = .seq [0, 1, 2, 3, 4, 5, 6, 7, 8, 9, 10, 11, 12] .nil := rfl
theorem s28_15 : s28 15 = .seq [0, 1, 2, 3, 4, 5, 6, 7, 8, 9, 10] .nil := rfl
theorem s28_16 : s28 16 = .seq [0, 1, 2, 3, 4, 5, 6, 7, 8, 9] .nil := rfl
theorem s28_ok : okCode E 94 s28 (Try.f28.body.getD .skip) = true := by kernel_rfl
/-- the orders of spec.CompareRows -/
def s29 (i : Nat) : Tr := if i = 4 then .seq [0, 1, 2, 3, 4, 5, 6, 7, 8] .nil else if i = 6 then .seq [0, 1, 2, 3, 4, 5, 6, 7, 8] .nil else .nil
theorem s29_4 : s29 4 = .seq [0, 1, 2, 3, 4, 5, 6, 7, 8] .nil := rfl
theorem s29_6 : s29 6 = .seq [0, 1, 2, 3, 4, 5, 6, 7, 8] .nil := rfl
theorem s29_ok : okCode E 46 s29 (Try.f29.body.getD .skip) = true := by kernel_rfl
/-- the orders of impl.rowsValid -/
def s30 (_ : Nat) : Tr := .nil
theorem s30_ok : okCode E 46 s30 (Try.f30.body.getD .skip) = true := by kernel_rfl
/-- the orders of impl.within -/
def s31 (_ : Nat) : Tr := .nil
theorem s31_ok : okCode E 15 s31 (Try.f31.body.getD .skip) = true := by kernel_rfl
/-- the orders of spec.IsValidRelation -/
def s32 (i : Nat) : Tr := if i = 6 then .seq [0, 1, 2, 3, 4, 5, 6, 7, 8, 9, 10, 11, 12, 13, 14, 15, 16, 17, 18, 19, 20, 21, 22, 23, 24, 25, 26, 27, 28, 29, 30, 31, 32, 33, 34, 35, 36] .nil else .nil
theorem s32_6 : s32 6 = .seq [0, 1, 2, 3, 4, 5, 6, 7, 8, 9, 10, 11, 12, 13, 14, 15, 16, 17, 18, 19, 20, 21, 22, 23, 24, 25, 26, 27, 28, 29, 30, 31, 32, 33, 34, 35, 36] .nil := rfl
theorem s32_ok : okCode E 58 s32 (Try.f32.body.getD .skip) = true := by kernel_rfl
/-- the orders of spec.l1In -/
def s33 (_ : Nat) : Tr := .nil
theorem s33_ok : okCode E 15 s33 (Try.f33.body.getD .skip) = true := by kernel_rfl
/-- the orders of impl.place -/
def s34 (_ : Nat) : Tr := .nil
theorem s34_ok : okCode E 42 s34 (Try.f34.body.getD .skip) = true := by kernel_rfl
/-- the orders of spec.l5Place -/
def s35 (_ : Nat) : Tr := .nil
theorem s35_ok : okCode E 46 s35 (Try.f35.body.getD .skip) = true := by kernel_rfl
/-- the orders of impl.sameRows -/
def s36 (i : Nat) : Tr := if i = 6 then .seq [0, 1, 2, 3, 4, 5, 6, 7, 8, 9] .nil else .nil
theorem s36_6 : s36 6 = .seq [0, 1, 2, 3, 4, 5, 6, 7, 8, 9] .nil := rfl
theorem s36_ok : okCode E 27 s36 (Try.f36.body.getD .skip) = true := by kernel_rfl
/-- the orders of impl.sameInts -/
def s37 (i : Nat) : Tr := if i = 6 then .seq [0, 1, 2, 3, 4, 5, 6, 7, 8] .nil else .nil
theorem s37_6 : s37 6 = .seq [0, 1, 2, 3, 4, 5, 6, 7, 8] .nil := rfl
theorem s37_ok : okCode E 26 s37 (Try.f37.body.getD .skip) = true := by kernel_rfl
/-- the orders of spec.l1Below -/
def s38 (_ : Nat) : Tr := .nil
theorem s38_ok : okCode E 37 s38 (Try.f38.body.getD .skip) = true := by kernel_rfl
/-- the orders of impl.columnsFit -/
def s39 (_ : Nat) : Tr := .nil
theorem s39_ok : okCode E 22 s39 (Try.f39.body.getD .skip) = true := by kernel_rfl
/-- the orders of impl.pick -/
def s40 (_ : Nat) : Tr := .nil
theorem s40_ok : okCode E 24 s40 (Try.f40.body.getD .skip) = true := by kernel_rfl
/-- the orders of spec.l5Cols -/
def s41 (_ : Nat) : Tr := .nil
theorem s41_ok : okCode E 25 s41 (Try.f41.body.getD .skip) = true := by kernel_rfl
/-- the orders of impl.copyRows -/
def s42 (_ : Nat) : Tr := .nil
theorem s42_ok : okCode E 19 s42 (Try.f42.body.getD .skip) = true := by kernel_rfl
/-- the orders of spec.l1PickInt -/
def s43 (_ : Nat) : Tr := .nil
theorem s43_ok : okCode E 12 s43 (Try.f43.body.getD .skip) = true := by kernel_rfl
/-- the orders of spec.CountedFromRelation -/
def s44 (_ : Nat) : Tr := .nil
theorem s44_ok : okCode E 31 s44 (Try.f44.body.getD .skip) = true := by kernel_rfl
/-- the orders of spec.l5Rel -/
def s45 (_ : Nat) : Tr := .nil
theorem s45_ok : okCode E 36 s45 (Try.f45.body.getD .skip) = true := by kernel_rfl
/-- the orders of impl.copyInts -/
def s46 (_ : Nat) : Tr := .nil
theorem s46_ok : okCode E 6 s46 (Try.f46.body.getD .skip) = true := by kernel_rfl
/-- the orders of spec.NewRelation -/
def s47 (_ : Nat) : Tr := .nil
theorem s47_ok : okCode E 40 s47 (Try.f47.body.getD .skip) = true := by kernel_rfl
/-- the orders of impl.AreValidValues -/
def s48 (_ : Nat) : Tr := .nil
theorem s48_ok : okCode E 15 s48 (Try.f48.body.getD .skip) = true := by kernel_rfl
/-- the orders of impl.CompareRows -/
def s49 (i : Nat) : Tr := if i = 4 then .seq [0, 1, 2, 3, 4, 5, 6, 7, 8] .nil else if i = 5 then .seq [0, 1, 2, 3, 4, 5, 6, 7, 8, 9] .nil else .nil
theorem s49_4 : s49 4 = .seq [0, 1, 2, 3, 4, 5, 6, 7, 8] .nil := rfl
theorem s49_5 : s49 5 = .seq [0, 1, 2, 3, 4, 5, 6, 7, 8, 9] .nil := rfl
theorem s49_ok : okCode E 41 s49 (Try.f49.body.getD .skip) = true := by kernel_rfl
/-- the orders of spec.AreValidValues -/
def s50 (_ : Nat) : Tr := .nil
theorem s50_ok : okCode E 16 s50 (Try.f50.body.getD .skip) = true := by kernel_rfl
/-- the orders of spec.l1Byte -/
def s51 (i : Nat) : Tr := if i = 2 then .seq [0, 1, 2, 3, 4, 5, 6, 7, 8, 9, 10, 11, 12] .nil else if i = 3 then .seq [0, 1, 2, 3, 4, 5, 6, 7, 8, 9] .nil else if i = 4 then .seq [0, 1, 2, 3, 4, 5, 6, 7, 8, 9, 10, 11, 12, 13, 14] .nil else .nil
theorem s51_2 : s51 2 = .seq [0, 1, 2, 3, 4, 5, 6, 7, 8, 9, 10, 11, 12] .nil := rfl
theorem s51_3 : s51 3 = .seq [0, 1, 2, 3, 4, 5, 6, 7, 8, 9] .nil := rfl
theorem s51_4 : s51 4 = .seq [0, 1, 2, 3, 4, 5, 6, 7, 8, 9, 10, 11, 12, 13, 14] .nil := rfl
theorem s51_ok : okCode E 58 s51 (Try.f51.body.getD .skip) = true := by kernel_rfl
/-- the orders of spec.l5Copy -/
def s52 (i : Nat) : Tr := if i = 5 then .seq [0, 1, 3, 4, 5, 6, 7, 2] (.app 8 [15] (.seq [9, 10, 11, 12] .nil)) else .nil
theorem s52_5 : s52 5 = .seq [0, 1, 3, 4, 5, 6, 7, 2] (.app 8 [15] (.seq [9, 10, 11, 12] .nil)) := rfl
theorem s52_ok : okCode E 28 s52 (Try.f52.body.getD .skip) = true := by kernel_rfl
/-- the orders of spec.l4Row -/
def s53 (_ : Nat) : Tr := .nil
theorem s53_ok : okCode E 20 s53 (Try.f53.body.getD .skip) = true := by kernel_rfl
/-- the orders of spec.l5Sort -/
def s54 (i : Nat) : Tr := if i = 13 then .seq [0, 1, 2, 3, 4, 5, 6, 7] .nil else .nil
theorem s54_13 : s54 13 = .seq [0, 1, 2, 3, 4, 5, 6, 7] .nil := rfl
theorem s54_ok : okCode E 80 s54 (Try.f54.body.getD .skip) = true := by kernel_rfl
/-- the orders of impl.compareInts -/
def s55 (_ : Nat) : Tr := .nil
theorem s55_ok : okCode E 13 s55 (Try.f55.body.getD .skip) = true := by kernel_rfl
end Go.Proofs.Ytimjeofhffkajaa

namespace Go.Proofs.Ytimjeofhffkajaa
open Go.Vs Go.Proofs Go
set_option maxRecDepth 100000
set_option maxHeartbeats 1000000


end Go.Proofs.Ytimjeofhffkajaa

namespace Go.Proofs.Ytimjeofhffkajaa
open Go.Vs Go.Proofs Go
set_option maxRecDepth 100000
set_option maxHeartbeats 1000000


end Go.Proofs.Ytimjeofhffkajaa

namespace Go.Proofs.Ytimjeofhffkajaa
open Go.Vs Go.Proofs Go
set_option maxRecDepth 100000
set_option maxHeartbeats 1000000


end Go.Proofs.Ytimjeofhffkajaa

namespace Go.Proofs.Ytimjeofhffkajaa
open Go.Vs Go.Proofs Go
set_option maxRecDepth 100000
set_option maxHeartbeats 1000000



end Go.Proofs.Ytimjeofhffkajaa

namespace Go.Proofs.Ytimjeofhffkajaa
open Go.Vs Go.Proofs Go
set_option maxRecDepth 100000
set_option maxHeartbeats 1000000


end Go.Proofs.Ytimjeofhffkajaa

namespace Go.Proofs.Ytimjeofhffkajaa
open Go.Vs Go.Proofs Go
set_option maxRecDepth 100000
set_option maxHeartbeats 1000000

attribute [simp] plI_id plStr_id map_plI map_plStr pS cP cI cStr cU8 cB
theorem w_impl_within (n lo hi : Int) : VC Try.prog 31 [.d (.int .i64 n), .d (.int .i64 lo), .d (.int .i64 hi)] (fun _ r => r = .d (.bool (inR n lo hi))) := by
  refine VC.ofL EP s31 (by kernel_rfl) Try.func31 (by rfl) (by kernel_rfl) (by simp [Try.f31]) (by simp [Try.f31]) s31_ok fun B hl => ?_
  by_cases h : lo ≤ n
  · simp [Try.f31, inR, h]
  · simp [Try.f31, inR, h]
theorem w_spec_l1In (n lo hi : Int) : VC Try.prog 33 [.d (.int .i64 n), .d (.int .i64 lo), .d (.int .i64 hi)] (fun _ r => r = .d (.bool (inR n lo hi))) := by
  refine VC.ofL EP s33 (by kernel_rfl) Try.func33 (by rfl) (by kernel_rfl) (by simp [Try.f33]) (by simp [Try.f33]) s33_ok fun B hl => ?_
  by_cases h : lo ≤ n
  · simp [Try.f33, inR, h]
  · simp [Try.f33, inR, h]
theorem w_impl_AreValidValues (xs : List Int) : VC Try.prog 48 [.d (pS cI xs)] (fun _ r => r = .d (.bool (valsOk xs))) := by
  refine VC.ofL EP s48 (by kernel_rfl) Try.func48 (by rfl) (by kernel_rfl) (by simp [Try.f48]) (by simp [Try.f48]) s48_ok fun B hl => ?_
  simp [pS, maxLen] at hl
  simp [Try.f48, pS]
  refine loop_rule (X := Nat) (fun i => i ≤ xs.length ∧ (xs.take i).all (fun v => inR v 0 99) = true) (fun i => [(5, .d (.pl (xs.map cI))), (6, .d (.int .i64 xs.length)), (7, .d (.int .i64 i))]) (fun _ => []) (fun i => xs.length - i) 0 (by simp) (by simp) (by simp) ?_
  intro i hs t m hi hh
  by_cases hlt : i < xs.length
  · have hwi := wr1 (i := i) (by omega)
    have hst := all_step (p := fun v => inR v 0 99) hlt
    rw [hi.2, Bool.true_and] at hst
    have hbad : inR xs[i] 0 99 = false → valsOk xs = false := all_bad (p := fun v => inR v 0 99) hlt
    simp [hlt, cI]
    refine call_f (w_impl_within xs[i] 0 99) (by simp) rfl fun hs1 hh1 => ?_
    cases hc : inR xs[i] 0 99
    · simp [hbad hc]
    · simp [hwi]
      simp at hh1
      exact back (i + 1) ⟨by omega, List.all_eq_true.1 (hst.trans hc)⟩ (by omega) rfl (by simp <;> omega) (by simp) (by simp)
  · have hd : valsOk xs = true := all_done (by omega) hi.2
    simp [hlt, hd]

end Go.Proofs.Ytimjeofhffkajaa

namespace Go.Proofs.Ytimjeofhffkajaa
open Go.Vs Go.Proofs Go
set_option maxRecDepth 100000
set_option maxHeartbeats 1000000

theorem w_spec_AreValidValues (xs : List Int) : VC Try.prog 50 [.d (pS cI xs)] (fun _ r => r = .d (.bool (valsOk xs))) := by
  refine VC.ofL EP s50 (by kernel_rfl) Try.func50 (by rfl) (by kernel_rfl) (by simp [Try.f50]) (by simp [Try.f50]) s50_ok fun B hl => ?_
  simp [pS, maxLen] at hl
  simp [Try.f50, pS]
  refine loop_rule (X := Nat) (fun i => i ≤ xs.length ∧ (xs.take i).all (fun v => inR v 0 99) = true) (fun i => [(0, .d (.pl (xs.map cI))), (3, .d (.int .i64 i))]) (fun _ => []) (fun i => xs.length - i) 0 (by simp) (by simp) (by simp) ?_
  intro i hs t m hi hh
  by_cases hlt : i < xs.length
  · have hwi := wr1 (i := i) (by omega)
    have hst := all_step (p := fun v => inR v 0 99) hlt
    rw [hi.2, Bool.true_and] at hst
    have hbad : inR xs[i] 0 99 = false → valsOk xs = false := all_bad (p := fun v => inR v 0 99) hlt
    simp [hlt, cI]
    refine call_f (w_spec_l1In xs[i] 0 99) (by simp) rfl fun hs1 hh1 => ?_
    simp at hh1
    cases hc : inR xs[i] 0 99
    · simp [hbad hc]
    · simp [hwi]
      exact back (i + 1) ⟨by omega, List.all_eq_true.1 (hst.trans hc)⟩ (by omega) rfl (by simp <;> omega) (by simp) (by simp)
  · have hd : valsOk xs = true := all_done (by omega) hi.2
    simp [hlt, hd]
theorem w_spec_CompareRows (a b : List Int) : VC Try.prog 29 [.d (pS cI a), .d (pS cI b)] (fun _ r => r = .d (.int .i64 (cmpL a b))) := by
  refine VC.ofL EP s29 (by kernel_rfl) Try.func29 (by rfl) (by kernel_rfl) (by simp [Try.f29]) (by simp [Try.f29]) s29_ok fun B hl => ?_
  simp [pS, maxLen, cI] at hl
  simp [Try.f29, s29_4, s29_6, pS]
  refine loop_rule (X := Nat) (fun i => i ≤ a.length ∧ i ≤ b.length ∧ cmpL a b = cmpL (a.drop i) (b.drop i)) (fun i => [(0, .d (.pl (a.map cI))), (1, .d (.pl (b.map cI))), (5, .d (.int .i64 i))]) (fun _ => []) (fun i => a.length - i) 0 (by simp) (by simp) (by simp) ?_
  intro i hs t m hi hh
  by_cases hlt : i < a.length
  · by_cases hlb : i < b.length
    · have hwi := wr1 (i := i) (by omega)
      have hc := cmpL_drop hlt hlb
      rw [← hi.2.2] at hc
      by_cases h1 : a[i] < b[i]
      · simp [cI, s29_4, s29_6, hlt, hlb, h1, hc]
      · by_cases h2 : b[i] < a[i]
        · simp [cI, s29_4, s29_6, hlt, hlb, h1, h2, hc]
        · simp only [h1, h2, if_false] at hc
          simp [cI, s29_4, s29_6, hlt, hlb, h1, h2, hwi]
          exact back (i + 1) ⟨by omega, by omega, hc⟩ (by omega) rfl (by simp) (by simp) (by simp)
    · have he := cmpL_end hi.1 hi.2.1 (by omega)
      rw [← hi.2.2] at he
      by_cases h1 : a.length < b.length
      · simp [hlt, hlb, h1, he]
      · by_cases h2 : b.length < a.length <;> simp [hlt, hlb, h1, h2, he]
  · have he := cmpL_end hi.1 hi.2.1 (by omega)
    rw [← hi.2.2] at he
    by_cases h1 : a.length < b.length
    · simp [hlt, h1, he]
    · by_cases h2 : b.length < a.length <;> simp [hlt, h1, h2, he]
theorem w_impl_compareInts (x y : Int) : VC Try.prog 55 [.d (.int .i64 x), .d (.int .i64 y)] (fun _ r => r = .d (.int .i64 (if x < y then -1 else if y < x then 1 else 0))) := by
  refine VC.ofL EP s55 (by kernel_rfl) Try.func55 (by rfl) (by kernel_rfl) (by simp [Try.f55]) (by simp [Try.f55]) s55_ok fun B hl => ?_
  by_cases h1 : x < y
  · simp [Try.f55, h1]
  · by_cases h2 : y < x <;> simp [Try.f55, h1, h2]
theorem w_impl_CompareRows (a b : List Int) : VC Try.prog 49 [.d (pS cI a), .d (pS cI b)] (fun _ r => r = .d (.int .i64 (cmpL a b))) := by
  refine VC.ofL EP s49 (by kernel_rfl) Try.func49 (by rfl) (by kernel_rfl) (by simp [Try.f49]) (by simp [Try.f49]) s49_ok fun B hl => ?_
  simp [pS, maxLen, cI] at hl
  simp [Try.f49, s49_4, s49_5, pS]
  refine loop_rule (X := Nat) (fun i => i ≤ a.length ∧ i ≤ b.length ∧ cmpL a b = cmpL (a.drop i) (b.drop i)) (fun i => [(0, .d (.pl (a.map cI))), (1, .d (.pl (b.map cI))), (5, .d (.int .i64 i))]) (fun _ => []) (fun i => a.length - i) 0 (by simp) (by simp) (by simp) ?_
  intro i hs t m hi hh
  by_cases hlt : i < a.length ∧ i < b.length
  · obtain ⟨hlt, hlb⟩ := hlt
    have hwi := wr1 (i := i) (by omega)
    have hc := cmpL_drop hlt hlb
    rw [← hi.2.2] at hc
    by_cases he : a[i] = b[i]
    · rw [if_neg (by omega), if_neg (by omega)] at hc
      simp [cI, s49_4, s49_5, hlt, hlb, hwi, he]
      exact back (i + 1) ⟨by omega, by omega, hc⟩ (by omega) rfl (by simp) (by simp) (by simp)
    · simp [cI, s49_4, s49_5, hlt, hlb, hwi, he]
      refine call_f (w_impl_compareInts a[i] b[i]) (by simp) rfl fun hs1 hh1 => ?_
      have : (if a[i] < b[i] then (-1 : Int) else if b[i] < a[i] then 1 else 0) = cmpL a b := by rw [hc]; by_cases h1 : a[i] < b[i] <;> simp [h1]; omega
      simp [this]
  · have he := cmpL_end hi.1 hi.2.1 hlt
    rw [← hi.2.2] at he
    have hcm : (if (a.length : Int) < b.length then (-1 : Int) else if (b.length : Int) < a.length then 1 else 0) = cmpL a b := by rw [he]; simp
    by_cases hl1 : i < a.length
    · have hl2 : ¬ i < b.length := fun h => hlt ⟨hl1, h⟩
      simp [hl1, hl2]
      refine call_f (w_impl_compareInts a.length b.length) (by simp) rfl fun hs1 hh1 => ?_
      simp only [hcm]
      simp
    · simp [hl1]
      refine call_f (w_impl_compareInts a.length b.length) (by simp) rfl fun hs1 hh1 => ?_
      simp only [hcm]
      simp

end Go.Proofs.Ytimjeofhffkajaa

namespace Go.Proofs.Ytimjeofhffkajaa
open Go.Vs Go.Proofs Go
set_option maxRecDepth 100000
set_option maxHeartbeats 1000000

theorem w_impl_rowsValid (ar : Int) (l : List (List Int)) : VC Try.prog 30 [.d (.int .i64 ar), .d (pS (cP cI) l)] (fun _ r => r = .d (.bool (rowsOk ar l))) := by
  refine VC.ofL EP s30 (by kernel_rfl) Try.func30 (by rfl) (by kernel_rfl) (by simp [Try.f30]) (by simp [Try.f30]) s30_ok fun B hl => ?_
  simp [pS, cP, cI, maxLen] at hl
  simp [Try.f30, pS]
  refine call_f (w_impl_within ar 0 5) (by simp) rfl fun hs0 hh0 => ?_
  simp at hh0
  cases h1 : inR ar 0 5
  · simp [rowsOk, h1]
  by_cases h2 : (4000 : Int) < l.length
  · simp [rowsOk, h2, show ¬ l.length ≤ 4000 by omega]
  have h2' : l.length ≤ 4000 := by omega
  simp [h2]
  refine loop_rule (X := Nat) (fun i => i ≤ l.length ∧ ∀ j, j < i → rowOk ar l j = true) (fun i => [(0, .d (.int .i64 ar)), (1, .d (.pl (l.map (cP cI)))), (15, .d (.pl (l.map (cP cI)))), (16, .d (.int .i64 l.length)), (17, .d (.int .i64 i))]) (fun _ => []) (fun i => l.length - i) 0 (by simp) (by simp) (by simp) ?_
  intro i hs t m hi hh
  by_cases hlt : i < l.length
  · have hwi := wr1 (i := i) (by omega)
    have hr : rowOk ar l i = (decide ((l[i].length : Int) = ar) && valsOk l[i] && (i == 0 || decide (cmpL (l.getD (i - 1) []) l[i] < 0))) := by simp [rowOk, hlt]
    have hbad := fun h => rows_bad (ar := ar) hlt h
    have step : rowOk ar l i = true → ∀ j, j < i + 1 → rowOk ar l j = true := fun h j hj => by
      rcases Nat.lt_succ_iff_lt_or_eq.1 hj with h' | h'
      · exact hi.2 j h'
      · rw [h']; exact h
    by_cases c1 : (l[i].length : Int) = ar
    case neg => simp [hlt, cP, pS, c1, hbad (by rw [hr]; simp [c1])]
    simp [hlt, cP, pS, c1]
    refine call_f (w_impl_AreValidValues l[i]) (by simp [pS]) rfl fun hs1 hh1 => ?_
    simp at hh1
    cases c2 : valsOk l[i]
    · simp [hbad (by rw [hr]; simp [c2])]
    by_cases c3 : i = 0
    · subst c3
      simp [hwi, show IntKind.i64.wrap 1 = 1 by decide]
      exact back 1 ⟨by omega, step (by rw [hr]; simp [c1, c2])⟩ (by omega) rfl (by simp <;> omega) (by simp [cP, pS, show IntKind.i64.wrap 1 = 1 by decide]) (by simp)
    · have hw1 : IntKind.i64.wrap ((i : Int) - 1) = ((i - 1 : Nat) : Int) := by rw [wrap64_of (by omega) (by omega)]; omega
      have hip : (0 : Int) < i := by omega
      have hlt1 : i - 1 < l.length := by omega
      have hg1 : l.getD (i - 1) [] = l[i - 1] := by simp [hlt1]
      rw [hg1] at hr
      simp [hip, hw1, hlt1, cP, pS, c3, show 0 < i by omega]
      refine call_f (w_impl_CompareRows l[i - 1] l[i]) (by simp [pS]) rfl fun hs2 hh2 => ?_
      simp at hh2
      by_cases c4 : cmpL l[i - 1] l[i] < 0
      · simp [hwi, show ¬ 0 ≤ cmpL l[i - 1] l[i] by omega]
        exact back (i + 1) ⟨by omega, step (by rw [hr]; simp [c1, c2, c4])⟩ (by omega) rfl (by simp <;> omega) (by simp [cP, pS]) (by simp)
      · simp [show 0 ≤ cmpL l[i - 1] l[i] by omega, hbad (by rw [hr]; simp [c3, c4])]
  · have hn : i = l.length := by omega
    have hd := rows_done h1 h2' (hn ▸ hi.2)
    simp [hlt, hd]
theorem w_spec_IsValidRelation (r : PReln) : VC Try.prog 32 [.agg ((eReln r).map .d)] (fun _ v => v = .d (.bool (rowsOk r.ar r.rows))) := by
  obtain ⟨ar, l⟩ := r
  refine VC.ofL EP s32 (by kernel_rfl) Try.func32 (by rfl) (by kernel_rfl) (by simp [Try.f32]) (by simp [Try.f32]) s32_ok fun B hl => ?_
  simp [eReln, pS, cP, cI, maxLen] at hl
  simp [Try.f32, s32_6, eReln, cI, cP, pS]
  refine call_f (w_spec_l1In ar 0 5) (by simp) rfl fun hs0 hh0 => ?_
  simp at hh0
  cases h1 : inR ar 0 5
  · simp [rowsOk, h1]
  by_cases h2 : (4000 : Int) < l.length
  · simp [rowsOk, h2, show ¬ l.length ≤ 4000 by omega]
  have h2' : l.length ≤ 4000 := by omega
  simp [h2]
  refine loop_rule (X := Nat) (fun i => i ≤ l.length ∧ ∀ j, j < i → rowOk ar l j = true) (fun i => [(1, .ptr 1 0 0), (3, .d (.int .i64 i))]) (fun _ => [(1, some (.box [.d (.int .i64 ar), .d (.pl (l.map fun xs => [.pl (xs.map cI)]))]))]) (fun i => l.length - i) 0 (by simp) (by simp) (by simp [cI, cP, pS]) ?_
  intro i hs t m hi hh
  by_cases hlt : i < l.length
  · have hwi := wr1 (i := i) (by omega)
    have hr : rowOk ar l i = (decide ((l[i].length : Int) = ar) && valsOk l[i] && (i == 0 || decide (cmpL (l.getD (i - 1) []) l[i] < 0))) := by simp [rowOk, hlt]
    have hbad := fun h => rows_bad (ar := ar) hlt h
    have step : rowOk ar l i = true → ∀ j, j < i + 1 → rowOk ar l j = true := fun h j hj => by
      rcases Nat.lt_succ_iff_lt_or_eq.1 hj with h' | h'
      · exact hi.2 j h'
      · rw [h']; exact h
    by_cases c1 : (l[i].length : Int) = ar
    case neg => simp [hlt, s32_6, c1, hbad (by rw [hr]; simp [c1])]
    simp [hlt, s32_6, c1]
    refine call_f (w_spec_AreValidValues l[i]) (by simp [pS]) rfl fun hs1 hh1 => ?_
    simp at hh1
    cases c2 : valsOk l[i]
    · simp [hbad (by rw [hr]; simp [c2])]
    by_cases c3 : i = 0
    · subst c3
      simp [hwi, show IntKind.i64.wrap 1 = 1 by decide]
      exact back 1 ⟨by omega, step (by rw [hr]; simp [c1, c2])⟩ (by omega) rfl (by simp <;> omega) (by simp [show IntKind.i64.wrap 1 = 1 by decide]) (by simp)
    · have hw1 : IntKind.i64.wrap ((i : Int) - 1) = ((i - 1 : Nat) : Int) := by rw [wrap64_of (by omega) (by omega)]; omega
      have hip : (0 : Int) < i := by omega
      have hlt1 : i - 1 < l.length := by omega
      have hg1 : l.getD (i - 1) [] = l[i - 1] := by simp [hlt1]
      rw [hg1] at hr
      simp [hip, hw1, hlt1, hlt, c3, show 0 < i by omega]
      refine call_f (w_spec_CompareRows l[i - 1] l[i]) (by simp [pS]) rfl fun hs2 hh2 => ?_
      simp at hh2
      by_cases c4 : cmpL l[i - 1] l[i] < 0
      · simp [hwi, show ¬ 0 ≤ cmpL l[i - 1] l[i] by omega]
        exact back (i + 1) ⟨by omega, step (by rw [hr]; simp [c1, c2, c4])⟩ (by omega) rfl (by simp <;> omega) (by simp) (by simp)
      · simp [show 0 ≤ cmpL l[i - 1] l[i] by omega, hbad (by rw [hr]; simp [c3, c4])]
  · have hn : i = l.length := by omega
    have hd := rows_done h1 h2' (hn ▸ hi.2)
    simp [hlt, hd]

end Go.Proofs.Ytimjeofhffkajaa

namespace Go.Proofs.Ytimjeofhffkajaa
open Go.Vs Go.Proofs Go
set_option maxRecDepth 100000
set_option maxHeartbeats 1000000

theorem w_impl_place (l : List (List Int)) (row : List Int) (hb : l.length ≤ 4294967296) : VC Try.prog 34 [.d (pS (cP cI) l), .d (pS cI row)] (fun _ v => v = .tup [.d (.int .i64 (placeK l row)), .d (.bool (placeB l row))]) := by
  refine VC.ofL EP s34 (by kernel_rfl) Try.func34 (by rfl) (by kernel_rfl) (by simp [Try.f34]) (by simp [Try.f34]) s34_ok fun B hl => ?_
  simp [pS, cP, cI, maxLen] at hl
  simp [Try.f34, pS]
  refine loop_rule (X := Nat × Nat) (fun p => p.1 ≤ p.2 ∧ p.2 ≤ l.length ∧ bs l row p.1 p.2 = placeK l row) (fun p => [(0, .d (.pl (l.map (cP cI)))), (1, .d (.pl (row.map cI))), (6, .d (.int .i64 p.1)), (7, .d (.int .i64 p.2))]) (fun _ => []) (fun p => p.2 - p.1) (0, l.length) (by simp; rfl) (by simp) (by simp) ?_
  rintro ⟨lo, hi⟩ hs t m ⟨h1, h2, h3⟩ hh
  simp only at h1 h2 h3
  by_cases hlt : lo < hi
  · rw [bs_lt hlt] at h3
    have hm := mid64 (a := lo) (b := hi) (by omega) (by omega)
    have hml : (lo + hi) / 2 < l.length := by omega
    have hk1 : lo ≤ (lo + hi) / 2 ∧ (lo + hi) / 2 < hi := by omega
    generalize (lo + hi) / 2 = k at *
    have hg : l.getD k [] = l[k] := by simp [hml]
    simp [hlt, hm, hml, cP, pS]
    refine call_f (w_impl_CompareRows l[k] row) (by simp [pS]) rfl fun hs1 hh1 => ?_
    simp at hh1
    rw [hg] at h3
    by_cases hc : cmpL l[k] row < 0
    · rw [if_pos hc] at h3
      have hw := wr1 (i := k) (by omega)
      simp [hc, hw]
      exact back (k + 1, hi) ⟨by simp; omega, h2, h3⟩ (by simp; omega) rfl (by simp <;> omega) (by simp [cP, pS]) (by simp)
    · rw [if_neg hc] at h3
      simp [hc]
      exact back (lo, k) ⟨by simp; omega, by simp; omega, h3⟩ (by simp; omega) rfl (by simp <;> omega) (by simp [cP, pS]) (by simp)
  · rw [bs_ge hlt] at h3
    subst h3
    by_cases hk : placeK l row < l.length
    · simp [hlt, hk, cP, pS]
      refine call_f (w_impl_CompareRows l[placeK l row] row) (by simp [pS]) rfl fun hs1 hh1 => ?_
      simp [placeB, hk]
    · simp [hlt, hk, placeB]
theorem w_spec_l5Place (r : PReln) (row : List Int) (hb : r.rows.length ≤ 4294967296) : VC Try.prog 35 [.agg ((eReln r).map .d), .d (pS cI row)] (fun _ v => v = .tup [.d (.int .i64 (placeK r.rows row)), .d (.bool (placeB r.rows row))]) := by
  obtain ⟨ar, l⟩ := r
  simp only at hb ⊢
  refine VC.ofL EP s35 (by kernel_rfl) Try.func35 (by rfl) (by kernel_rfl) (by simp [Try.f35]) (by simp [Try.f35]) s35_ok fun B hl => ?_
  simp [eReln, pS, cP, cI, maxLen] at hl
  simp [Try.f35, eReln, cI, cP, pS]
  refine loop_rule (X := Nat × Nat) (fun p => p.1 ≤ p.2 ∧ p.2 ≤ l.length ∧ bs l row p.1 p.2 = placeK l row) (fun p => [(2, .ptr 2 0 0), (1, .d (.pl (row.map cI))), (6, .d (.int .i64 p.1)), (7, .d (.int .i64 p.2))]) (fun _ => [(2, some (.box [.d (.int .i64 ar), .d (.pl (l.map (cP cI)))]))]) (fun p => p.2 - p.1) (0, l.length) (by simp; rfl) (by simp [cI]) (by simp [cP, pS, cI]) ?_
  rintro ⟨lo, hi⟩ hs t m ⟨h1, h2, h3⟩ hh
  simp only at h1 h2 h3
  by_cases hlt : lo < hi
  · rw [bs_lt hlt] at h3
    have hm := mid64 (a := lo) (b := hi) (by omega) (by omega)
    have hml : (lo + hi) / 2 < l.length := by omega
    have hk1 : lo ≤ (lo + hi) / 2 ∧ (lo + hi) / 2 < hi := by omega
    generalize (lo + hi) / 2 = k at *
    have hg : l.getD k [] = l[k] := by simp [hml]
    simp [hlt, hm, hml, cP, pS]
    refine call_f (w_spec_CompareRows l[k] row) (by simp [pS]) rfl fun hs1 hh1 => ?_
    simp at hh1
    rw [hg] at h3
    by_cases hc : cmpL l[k] row < 0
    · rw [if_pos hc] at h3
      have hw := wr1 (i := k) (by omega)
      simp [hc, hw]
      exact back (k + 1, hi) ⟨by simp; omega, h2, h3⟩ (by simp; omega) rfl (by simp <;> omega) (by simp [cP, pS]) (by simp [cP, pS])
    · rw [if_neg hc] at h3
      simp [hc]
      exact back (lo, k) ⟨by simp; omega, by simp; omega, h3⟩ (by simp; omega) rfl (by simp <;> omega) (by simp [cP, pS]) (by simp [cP, pS])
  · rw [bs_ge hlt] at h3
    subst h3
    by_cases hk : placeK l row < l.length
    · simp [hlt, hk, cP, pS]
      refine call_f (w_spec_CompareRows l[placeK l row] row) (by simp [pS]) rfl fun hs1 hh1 => ?_
      simp [placeB, hk]
    · simp [hlt, hk, placeB]
theorem w_impl_IsValidCounted (c : PCnt) : VC Try.prog 10 [.agg ((eCnt c).map .d)] (fun _ v => v = .d (.bool (cntsOk c))) := by
  obtain ⟨ar, l, cs⟩ := c
  refine VC.ofL EP s10 (by kernel_rfl) Try.func10 (by rfl) (by kernel_rfl) (by simp [Try.f10]) (by simp [Try.f10]) s10_ok fun B hl => ?_
  simp [eCnt, pS, cP, cI, maxLen] at hl
  simp [Try.f10, eCnt, cI, cP, pS]
  refine call_f (w_impl_rowsValid ar l) (by simp [pS, cP, cI]) rfl fun hs0 hh0 => ?_
  simp at hh0
  cases h1 : rowsOk ar l
  · simp [cntsOk, h1]
  by_cases h2 : cs.length = l.length
  case neg => simp [h2, cntsOk, show ¬ l.length = cs.length by omega]
  simp [h2]
  refine loop_rule (X := Nat) (fun i => i ≤ cs.length ∧ (cs.take i).all cntOk = true) (fun i => [(21, .d (.pl (cs.map cI))), (22, .d (.int .i64 cs.length)), (23, .d (.int .i64 i))]) (fun _ => []) (fun i => cs.length - i) 0 (by simp) (by simp [cI, h2]) (by simp) ?_
  intro i hs t m hi hh
  by_cases hlt : i < cs.length
  · have hwi := wr1 (i := i) (by omega)
    have hst := all_step (p := cntOk) hlt
    rw [hi.2, Bool.true_and] at hst
    have hbad : cntOk cs[i] = false → cntsOk ⟨ar, l, cs⟩ = false := fun h => by simp only [cntsOk]; rw [all_bad (p := cntOk) hlt h]; simp
    by_cases h0 : cs[i] = 0
    · simp [hlt, cI, h0, hbad (by simp [cntOk, h0])]
    simp [hlt, cI, h0]
    refine call_f (w_impl_within cs[i] (-1000000) 1000000) (by simp) rfl fun hs1 hh1 => ?_
    simp at hh1
    cases hc : inR cs[i] (-1000000) 1000000
    · simp [hbad (by simp [cntOk, hc])]
    · simp [hwi]
      exact back (i + 1) ⟨by omega, List.all_eq_true.1 (hst.trans (by simp [cntOk, hc, h0]))⟩ (by omega) rfl (by simp <;> omega) (by simp [cI]) (by simp)
  · have hd : cs.all cntOk = true := all_done (by omega) hi.2
    have hf : cntsOk ⟨ar, l, cs⟩ = true := by simp only [cntsOk]; rw [hd]; simp [h1, h2]
    simp [hlt, hf]
theorem w_spec_IsValidCounted (c : PCnt) : VC Try.prog 11 [.agg ((eCnt c).map .d)] (fun _ v => v = .d (.bool (cntsOk c))) := by
  obtain ⟨ar, l, cs⟩ := c
  refine VC.ofL EP s11 (by kernel_rfl) Try.func11 (by rfl) (by kernel_rfl) (by simp [Try.f11]) (by simp [Try.f11]) s11_ok fun B hl => ?_
  simp [eCnt, pS, cP, cI, maxLen] at hl
  by_cases h2 : l.length = cs.length
  case neg => simp [Try.f11, eCnt, cI, cP, pS, h2, cntsOk]
  simp [Try.f11, eCnt, cI, cP, pS, h2]
  refine call_f (w_spec_IsValidRelation ⟨ar, l⟩) (by simp [eReln, pS, cP, cI]) rfl fun hs0 hh0 => ?_
  simp at hh0
  cases h1 : rowsOk ar l
  · simp [cntsOk, h1]
  simp
  refine loop_rule (X := Nat) (fun i => i ≤ cs.length ∧ (cs.take i).all cntOk = true) (fun i => [(1, .ptr 1 0 0), (3, .d (.int .i64 i))]) (fun _ => [(1, some (.box [.d (.int .i64 ar), .d (.pl (l.map (cP cI))), .d (.pl (cs.map cI))]))]) (fun i => cs.length - i) 0 (by simp) (by simp) (by simp [cI, cP, pS]) ?_
  intro i hs t m hi hh
  by_cases hlt : i < cs.length
  · have hwi := wr1 (i := i) (by omega)
    have hst := all_step (p := cntOk) hlt
    rw [hi.2, Bool.true_and] at hst
    have hbad : cntOk cs[i] = false → cntsOk ⟨ar, l, cs⟩ = false := fun h => by simp only [cntsOk]; rw [all_bad (p := cntOk) hlt h]; simp
    by_cases h0 : cs[i] = 0
    · simp [hlt, cI, h0, hbad (by simp [cntOk, h0])]
    simp [hlt, cI, h0]
    refine call_f (w_spec_l1In cs[i] (-1000000) 1000000) (by simp) rfl fun hs1 hh1 => ?_
    simp at hh1
    cases hc : inR cs[i] (-1000000) 1000000
    · simp [hbad (by simp [cntOk, hc])]
    · simp [hwi]
      exact back (i + 1) ⟨by omega, List.all_eq_true.1 (hst.trans (by simp [cntOk, hc, h0]))⟩ (by omega) rfl (by simp <;> omega) (by simp [cI]) (by simp [cI])
  · have hd : cs.all cntOk = true := all_done (by omega) hi.2
    have hf : cntsOk ⟨ar, l, cs⟩ = true := by simp only [cntsOk]; rw [hd]; simp [h1, h2]
    simp [hlt, hf]

end Go.Proofs.Ytimjeofhffkajaa

namespace Go.Proofs.Ytimjeofhffkajaa
open Go.Vs Go.Proofs Go
set_option maxRecDepth 100000
set_option maxHeartbeats 1000000

theorem w_impl_CountOfRow (c : PCnt) (row : List Int) (hb : c.rows.length ≤ 4294967296) : VC Try.prog 13 [.agg ((eCnt c).map .d), .d (pS cI row)] (fun _ v => v = .d (.int .i64 (countOf c row))) := by
  refine VC.ofL EP s13 (by kernel_rfl) Try.func13 (by rfl) (by kernel_rfl) (by simp [Try.f13]) (by simp [Try.f13]) s13_ok fun B hl => ?_
  simp [eCnt, pS, cP, cI, maxLen] at hl
  simp [Try.f13, eCnt, cI, cP, pS]
  refine call_f (w_impl_place c.rows row hb) (by simp [pS, cP, cI]) rfl fun hs0 hh0 => ?_
  simp at hh0
  cases h1 : placeB c.rows row
  · simp [countOf, h1]
  simp
  refine call_f (w_impl_IsValidCounted c) (by simp [eCnt, pS, cP, cI]) rfl fun hs1 hh1 => ?_
  cases h2 : cntsOk c
  · simp [countOf, h2]
  have h3 := placeB_lt h1
  rw [cntsOk_len h2] at h3
  simp [countOf, h1, h2, h3]
theorem w_spec_CountOfRow (c : PCnt) (row : List Int) : VC Try.prog 14 [.agg ((eCnt c).map .d), .d (pS cI row)] (fun _ v => v = .d (.int .i64 (countOf c row))) := by
  refine VC.ofL EP s14 (by kernel_rfl) Try.func14 (by rfl) (by kernel_rfl) (by simp [Try.f14]) (by simp [Try.f14]) s14_ok fun B hl => ?_
  simp [eCnt, pS, cP, cI, maxLen] at hl
  simp [Try.f14, eCnt, cI, cP, pS]
  refine call_f (w_spec_IsValidCounted c) (by simp [eCnt, pS, cP, cI]) rfl fun hs1 hh1 => ?_
  simp at hh1
  cases h2 : cntsOk c
  · simp [countOf, h2]
  have hb : c.rows.length ≤ 4294967296 := by have := rowsOk_len (cntsOk_rows h2); omega
  simp
  refine call_f (w_spec_l5Place ⟨c.ar, c.rows⟩ row hb) (by simp [eReln, pS, cP, cI]) rfl fun hs0 hh0 => ?_
  cases h1 : placeB c.rows row
  · simp [countOf, h1]
  have h3 := placeB_lt h1
  rw [cntsOk_len h2] at h3
  simp [countOf, h1, h2, h3]

end Go.Proofs.Ytimjeofhffkajaa

namespace Go.Proofs.Ytimjeofhffkajaa
open Go.Vs Go.Proofs Go
set_option maxRecDepth 100000
set_option maxHeartbeats 1000000

theorem w_spec_l5Copy (r : PReln) (hb : r.rows.length ≤ 4294967296) (hb2 : ∀ x ∈ r.rows, x.length ≤ 4294967296) : VC Try.prog 52 [.agg ((eReln r).map .d)] (fun _ v => v = .agg ((eReln r).map .d)) := by
  obtain ⟨ar, l⟩ := r
  simp only at hb hb2
  refine VC.ofL EP s52 (by kernel_rfl) Try.func52 (by rfl) (by kernel_rfl) (by simp [Try.f52]) (by simp [Try.f52]) s52_ok fun B hl => ?_
  simp [Try.f52, s52_5, eReln]
  refine loop_ruleL (X := Nat) (fun i _ => i ≤ l.length) (fun i => [(1, .ptr 1 0 0), (2, .ptr 2 0 0), (3, .ptr 3 0 0), (4, .d (.int .i64 i))])
    (fun i => [(1, some (.box [.d (.int .i64 ar), .d (.pl (l.map (cP cI)))])), (2, some (.box [.d (.int .i64 0), .d (.sl none none [])])), (3, some (.box [.d (.int .i64 ar), .own 25 0 i])), (25, some (.row 25 1 ((l.take i).map (cP cI))))]) (fun i => l.length - i) ?_ ?_
  · refine (lead_box 3 1 25 25 1 [.d (.int .i64 ar), .d (.sl none none [])] (by omega) (by omega) (by omega) (by simp) rfl).bind ?_
    rintro _ rfl
    exact Lead.of ⟨0, by simp, rfl, rfl, Nat.le_refl _, by simp, by simp⟩
  · intro i hs t m hi hh
    by_cases hlt : i < l.length
    · have hwi := wr1 (i := i) (by omega)
      have hL : LenOk 24 (i + 1) := ⟨by omega, by simp only [maxLen]; omega⟩
      have hx := hb2 _ (List.getElem_mem hlt)
      have hL2 : LenOk 8 l[i].length := ⟨by omega, by simp only [maxLen]; omega⟩
      simp [hlt, hL, hL2, hwi, List.take_of_length_le, show min i l.length = i by omega, s52_5, ]
      refine back2 (i + 1) (by omega) (by omega) rfl (by simp <;> omega) (by simp) ?_
      simp
      rw [List.take_succ_eq_append_getElem (by simpa using hlt)]; simp
    · have hn : i = l.length := by omega
      subst hn
      simp [List.take_of_length_le]
theorem w_spec_CountedFromRelation (r : PReln) : VC Try.prog 44 [.agg ((eReln r).map .d)] (fun _ v => v = .tup [.agg ((eCnt (cntOf r)).map .d), .d (.bool (rowsOk r.ar r.rows))]) := by
  refine VC.ofL EP s44 (by kernel_rfl) Try.func44 (by rfl) (by kernel_rfl) (by simp [Try.f44]) (by simp [Try.f44]) s44_ok fun B hl => ?_
  simp [eReln, maxLen] at hl
  simp [Try.f44, eReln]
  refine call_f (w_spec_IsValidRelation r) (by simp [eReln]) rfl fun hs0 hh0 => ?_
  simp at hh0
  cases h1 : rowsOk r.ar r.rows
  · simp [cntOf, h1, eCnt]
  have hlen := rowsOk_len h1
  have hrow := rowsOk_row h1
  simp
  refine call_p (w_spec_l5Copy r (by omega) (fun x hx => by have := hrow x hx; omega)) (by simp [eReln]) fun hs1 hh1 _ => ?_
  simp at hh1
  simp [eReln]
  refine loop_ruleL (X := Nat) (fun i _ => i ≤ r.rows.length) (fun i => [(1, .ptr 1 0 0), (2, .ptr 2 0 0), (5, .ptr 5 0 0), (6, .d (.int .i64 i))])
    (fun i => [(1, some (.box [.d (.int .i64 r.ar), .d (.pl (r.rows.map (cP cI)))])), (2, some (.box [.d (.int .i64 0), .d (.sl none none []), .d (.sl none none [])])), (5, some (.box [.d (.int .i64 r.ar), .d (.pl (r.rows.map (cP cI))), .own 28 0 i])), (28, some (.row 3 1 ((List.replicate i 1).map cI)))]) (fun i => r.rows.length - i) ?_ ?_
  · refine (lead_box 5 2 28 3 1 [.d (.int .i64 r.ar), .d (.pl (r.rows.map (cP cI))), .d (.sl none none [])] (by omega) (by omega) (by omega) (by simp) rfl).bind ?_
    rintro _ rfl
    exact Lead.of ⟨0, by simp, rfl, rfl, Nat.le_refl _, by simp, by simp⟩
  · intro i hs t m hi hh
    by_cases hlt : i < r.rows.length
    · have hwi := wr1 (i := i) (by omega)
      have hL : LenOk 8 (i + 1) := ⟨by omega, by simp only [maxLen]; omega⟩
      simp [hlt, hL, hwi, ]
      refine back2 (i + 1) (by omega) (by omega) rfl (by simp <;> omega) (by simp) ?_
      simp [List.replicate_succ']
    · have hn : i = r.rows.length := by omega
      subst hn
      simp [cntOf, h1, eCnt, List.take_of_length_le]

end Go.Proofs.Ytimjeofhffkajaa

namespace Go.Proofs.Ytimjeofhffkajaa
open Go.Vs Go.Proofs Go
set_option maxRecDepth 100000
set_option maxHeartbeats 1000000

def cW (n : Int) : List D := [.int .u8 n]
/-- a cursor over the bytes b: place, state -/
def curD (b : Sl Int) (c : Nat × Int) : List D := [dSl cW b, .int .i64 c.1, .int .i64 c.2]
def curO (b : Sl Int) (c : Nat × Int) : Prop := c.1 ≤ b.xs.length
/-! operations of drawn numbers, kept shut -/
def andZ (k : IntKind) (a b : Int) : Int := k.wrap (BitVec.ofInt k.bits a &&& BitVec.ofInt k.bits b).toNat
def xorZ (k : IntKind) (a b : Int) : Int := k.wrap (BitVec.ofInt k.bits a ^^^ BitVec.ofInt k.bits b).toNat
def shrZ (k : IntKind) (a b : Int) : Int := a.fdiv (2 ^ (min b.toNat k.bits))
theorem bD_add (k k' : IntKind) (a b : Int) : binD .add (.d (.int k a)) (.d (.int k' b)) = .int k (k.wrap (a + b)) := id rfl
theorem bD_sub (k k' : IntKind) (a b : Int) : binD .sub (.d (.int k a)) (.d (.int k' b)) = .int k (k.wrap (a - b)) := id rfl
theorem bD_mul (k k' : IntKind) (a b : Int) : binD .mul (.d (.int k a)) (.d (.int k' b)) = .int k (k.wrap (a * b)) := id rfl
theorem bD_rem (k k' : IntKind) (a b : Int) : binD .rem (.d (.int k a)) (.d (.int k' b)) = .int k (a.tmod b) := id rfl
theorem bD_and (k k' : IntKind) (a b : Int) : binD .and (.d (.int k a)) (.d (.int k' b)) = .int k (andZ k a b) := id rfl
theorem bD_xor (k k' : IntKind) (a b : Int) : binD .xor (.d (.int k a)) (.d (.int k' b)) = .int k (xorZ k a b) := id rfl
theorem bD_shr (k k' : IntKind) (a b : Int) : binD .shr (.d (.int k a)) (.d (.int k' b)) = .int k (shrZ k a b) := id rfl
theorem bD_lss (k k' : IntKind) (a b : Int) : binD .lss (.d (.int k a)) (.d (.int k' b)) = .bool (decide (a < b)) := id rfl
theorem bD_leq (k k' : IntKind) (a b : Int) : binD .leq (.d (.int k a)) (.d (.int k' b)) = .bool (decide (a ≤ b)) := id rfl
theorem bD_gtr (k k' : IntKind) (a b : Int) : binD .gtr (.d (.int k a)) (.d (.int k' b)) = .bool (decide (b < a)) := id rfl
theorem bD_eql (k k' : IntKind) (a b : Int) : binD .eql (.d (.int k a)) (.d (.int k' b)) = .bool (a == b) := id rfl
theorem and255 (a : Int) : 0 ≤ andZ .i64 a 255 ∧ andZ .i64 a 255 < 256 := by
  have h : (BitVec.ofInt 64 a &&& BitVec.ofInt 64 255).toNat ≤ 255 := by
    rw [BitVec.toNat_and]
    exact Nat.and_le_right
  have e : andZ .i64 a 255 = ((BitVec.ofInt 64 a &&& BitVec.ofInt 64 255).toNat : Int) := by
    show IntKind.i64.wrap ((BitVec.ofInt 64 a &&& BitVec.ofInt 64 255).toNat : Int) = _
    exact wrap64_of (by omega) (by omega)
  rw [e]; omega
/-- of the slots and of memory only this is kept -/
theorem forgetT {P : Program} {E : Md} {ops : Array Oper} {tr : Tr} {K : St → Prop} {B hs : Nat} {W : List Nat} {t0 : Nat → V} {m0 : Nat → Option Blk} (S : List (Nat × V)) (M : List (Nat × Option Blk))
    (hS : ∀ p ∈ S, t0 p.1 = p.2) (hM : ∀ p ∈ M, m0 p.1 = p.2) (h : ∀ t m, vtr P E ops K tr ⟨B, hs, W, updL t S, updL m M⟩) : vtr P E ops K tr ⟨B, hs, W, t0, m0⟩ := by
  have := h t0 m0
  rwa [updL_has hS, updL_has hM] at this
theorem forgetG {G : St → Prop} {B hs : Nat} {W : List Nat} {t0 : Nat → V} {m0 : Nat → Option Blk} (S : List (Nat × V)) (M : List (Nat × Option Blk))
    (hS : ∀ p ∈ S, t0 p.1 = p.2) (hM : ∀ p ∈ M, m0 p.1 = p.2) (h : ∀ t m, G ⟨B, hs, W, updL t S, updL m M⟩) : G ⟨B, hs, W, t0, m0⟩ := by
  have := h t0 m0
  rwa [updL_has hS, updL_has hM] at this
/-- what a call leaves that is handed the cursor: its result, and the cursor over the same bytes -/
structure CurP (b : Sl Int) (q : V → Prop) (r : V) (cs : List V) : Prop where
  ex : ∃ c', q r ∧ cs = (curD b c').map V.d ∧ curO b c'
def byteQ (v : V) : Prop := ∃ x, v = .d (.int .i64 x) ∧ 0 ≤ x ∧ x < 256
def belQ (n : Int) (v : V) : Prop := ∃ x, v = .d (.int .i64 x) ∧ 0 ≤ x ∧ (0 < n → x < n) ∧ (n ≤ 0 → x = 0)
def boolQ (v : V) : Prop := ∃ x, v = .d (.bool x)
def inQ (l : List Int) (v : V) : Prop := ∃ x, v = .d (.int .i64 x) ∧ x ∈ l
def strQ (l : List (List UInt8)) (v : V) : Prop := ∃ x, v = .d (.str x) ∧ x ∈ l
theorem call_cur {P : Program} {E : Md} {args : List Operand} {f : FuncId} {rest As : List V} {k : Nat} {dst : Option Tmp} {K : St → Prop} {σ : St} {b : Sl Int} {q : V → Prop} (c : Nat × Int) (hE : E f = true)
    (hc : VX P f [] (.ptr 1000 0 0 :: As) (some ((curD b c).map V.d)) (fun _ r cs _ => CurP b q r cs)) (hvs : args.map σ.ev = .ptr k 0 0 :: rest) (hm : σ.m k = some (.box ((curD b c).map V.d)))
    (hr : rpL σ.m rest = some As) (hk : keysVL rest = [])
    (hK : ∀ r c' hs', σ.hs ≤ hs' → q r → r.ln → curO b c' → K ({ σ with hs := hs', m := upd σ.m k (some (.box ((curD b c').map V.d))) }.put dst r)) : vcallA P E f args (.ptr k 0 0 :: rest) dst K σ := by
  refine call_xt hE hvs hm hr (by simp [curD, dSl]) hc fun r cs' ws n hs' h1 h2 h3 h4 h5 => ?_
  obtain ⟨c', hq, rfl, ho⟩ := h3.ex
  have : keysVL rest ++ keysVL ((curD b c).map V.d) = [] := by rw [hk]; simp [curD]
  rw [this]
  exact hK r c' hs' (Nat.le_trans h1 h2) hq h4 ho
theorem byte_fin {b : Sl Int} {i : Nat} {H x : Int} (h : i + 1 ≤ b.xs.length) (hx : 0 ≤ x ∧ x < 256) : CurP b byteQ (.d (.int .i64 x)) [.d (.sl b.id b.T (b.xs.map cW)), .d (.int .i64 ((i : Int) + 1)), .d (.int .i64 H)] :=
  ⟨⟨(i + 1, H), ⟨_, rfl, hx.1, hx.2⟩, by simp [curD, dSl], h⟩⟩
theorem byte_fin0 {b : Sl Int} {i : Nat} {H x : Int} (h : i ≤ b.xs.length) (hx : 0 ≤ x ∧ x < 256) : CurP b byteQ (.d (.int .i64 x)) [.d (.sl b.id b.T (b.xs.map cW)), .d (.int .i64 (i : Int)), .d (.int .i64 H)] :=
  ⟨⟨(i, H), ⟨_, rfl, hx.1, hx.2⟩, by simp [curD, dSl], h⟩⟩
section
attribute [local simp] pS dSl cP cI cW bD_add bD_sub bD_mul bD_rem bD_and bD_xor bD_shr bD_lss bD_leq bD_gtr bD_eql vendX vretX
attribute [-simp] binD
theorem w_spec_l1New (b : Sl Int) (hb : b.xs.length ≤ 1048576) : VN Try.prog 21 [.d (dSl cW b)] (fun _ ds => ∃ c, ds = curD b c ∧ curO b c) := by
  refine VN.of EP s21 (by kernel_rfl) Try.func21 (by rfl) (by kernel_rfl) (by simp [Try.f21]) (by simp [Try.f21]) s21_ok fun B => ?_
  simp [Try.f21, ]
  refine loop_rule (X := Nat × Int) (fun p => p.1 ≤ b.xs.length) (fun p => [(0, .d (.sl b.id b.T (b.xs.map cW))), (3, .d (.int .i64 p.2)), (4, .d (.int .i64 p.1))]) (fun _ => []) (fun p => b.xs.length - p.1) (0, IntKind.i64.wrap (10101 + b.xs.length)) (by simp) (by simp) (by simp) ?_
  rintro ⟨i, h⟩ hs t m hi hh
  simp only at hi
  by_cases hlt : i < b.xs.length
  · have hwi := wr1 (i := i) (by omega)
    by_cases h4 : (i : Int) < 4000
    · simp [hlt, h4, hwi, ]
      exact back (i + 1, _) (by simp only; omega) (by simp only; omega) rfl (by simp <;> omega) (by simp; rfl) (by simp)
    · simp [hlt, h4, ]
      exact ⟨curD b (0, h), .inr (by simp [curD]), 0, h, rfl, by simp [curO]⟩
  · simp [hlt, ]
    exact ⟨curD b (0, h), .inr (by simp [curD]), 0, h, rfl, by simp [curO]⟩
theorem w_spec_l1Byte (b : Sl Int) (c : Nat × Int) (hb : b.xs.length ≤ 1048576) (hc : curO b c) : VX Try.prog 51 [] [.ptr 1000 0 0] (some ((curD b c).map V.d)) (fun _ r cs _ => CurP b byteQ r cs) := by
  refine VX.of EP s51 (by kernel_rfl) Try.func51 (by rfl) (by kernel_rfl) (by simp [Try.f51]) (by simp [Try.f51]) s51_ok ?_ ?_ fun B hB => ?_
  · simp
  · rintro cs h
    cases h
    simp [curD]
  obtain ⟨i, h⟩ := c
  simp only [curO] at hc
  simp [Try.f51, curD]
  generalize IntKind.i64.wrap (IntKind.i64.wrap (h * 6364136223846793005) + 1442695040888963407) = h'
  simp [s51_2, ]
  generalize xorZ IntKind.i64 (shrZ IntKind.i64 h' 33) (shrZ IntKind.i64 h' 45) = x'
  have hy := and255 x'
  generalize andZ IntKind.i64 x' 255 = y at hy ⊢
  refine forgetT [(0, .ptr 1000 0 0), (3, .d (.int .i64 y))] [(1000, some (.box [.d (.sl b.id b.T (b.xs.map cW)), .d (.int .i64 i), .d (.int .i64 h')]))] (by simp) (by simp) fun t m => ?_
  by_cases hlt : i < b.xs.length
  · have hwi := wr1 (i := i) (by omega)
    simp [s51_3, hlt]
    simp [-w_region, s51_4, hlt, hwi]
    have hz := and255 (IntKind.i64.wrap (y + IntKind.i64.wrap b.xs[i]))
    generalize andZ IntKind.i64 (IntKind.i64.wrap (y + IntKind.i64.wrap b.xs[i])) 255 = z at hz ⊢
    refine forgetG [(0, .ptr 1000 0 0), (3, .d (.int .i64 z))] [(1000, some (.box [.d (.sl b.id b.T (b.xs.map cW)), .d (.int .i64 i), .d (.int .i64 h')]))] (by simp) (by simp) fun t m => ?_
    simp [hwi]
    exact .inr <| byte_fin (b := b) (by omega) hz
  · simp [s51_3, hlt]
    exact .inr <| byte_fin0 hc hy
theorem w_spec_l1Below (b : Sl Int) (c : Nat × Int) (n : Int) (hb : b.xs.length ≤ 1048576) (hc : curO b c) (hn : n ≤ 1000000000) : VX Try.prog 38 [] [.ptr 1000 0 0, .d (.int .i64 n)] (some ((curD b c).map V.d)) (fun _ r cs _ => CurP b (belQ n) r cs) := by
  refine VX.of EP s38 (by kernel_rfl) Try.func38 (by rfl) (by kernel_rfl) (by simp [Try.f38]) (by simp [Try.f38]) s38_ok ?_ ?_ fun B hB => ?_
  · simp
  · rintro cs h
    cases h
    simp [curD]
  by_cases h0 : n ≤ 0
  · simp [Try.f38, curD, h0]
    exact .inr ⟨⟨c, ⟨0, rfl, by omega, fun h => absurd h (by omega), fun _ => rfl⟩, by simp [curD], hc⟩⟩
  have tm : ∀ x : Int, 0 ≤ x → 0 ≤ x.tmod n ∧ x.tmod n < n := fun x hx => by
    rw [Int.tmod_eq_emod_of_nonneg hx]
    exact ⟨Int.emod_nonneg _ (by omega), Int.emod_lt_of_pos _ (by omega)⟩
  have hn0 : ¬ n = 0 := by omega
  by_cases h1 : n ≤ 256
  · simp [Try.f38, curD, h0, h1]
    refine call_cur c E51 (w_spec_l1Byte b c hb hc) (by simp) (by simp [curD]) (by simp) (by simp) fun r1 c1 hs1 hh1 hq1 hl1 o1 => ?_
    obtain ⟨x1, rfl, a1, b1⟩ := hq1
    simp [curD, hn0]
    exact .inr ⟨⟨c1, ⟨_, rfl, (tm x1 a1).1, fun _ => (tm x1 a1).2, fun h => absurd h h0⟩, by simp [curD], o1⟩⟩
  simp [Try.f38, curD, h0, h1]
  refine call_cur c E51 (w_spec_l1Byte b c hb hc) (by simp) (by simp [curD]) (by simp) (by simp) fun r1 c1 hs1 hh1 hq1 hl1 o1 => ?_
  obtain ⟨x1, rfl, a1, b1⟩ := hq1
  simp [curD]
  refine call_cur c1 E51 (w_spec_l1Byte b c1 hb o1) (by simp) (by simp [curD]) (by simp) (by simp) fun r2 c2 hs2 hh2 hq2 hl2 o2 => ?_
  obtain ⟨x2, rfl, a2, b2⟩ := hq2
  simp [curD]
  refine call_cur c2 E51 (w_spec_l1Byte b c2 hb o2) (by simp) (by simp [curD]) (by simp) (by simp) fun r3 c3 hs3 hh3 hq3 hl3 o3 => ?_
  obtain ⟨x3, rfl, a3, b3⟩ := hq3
  simp [curD]
  refine call_cur c3 E51 (w_spec_l1Byte b c3 hb o3) (by simp) (by simp [curD]) (by simp) (by simp) fun r4 c4 hs4 hh4 hq4 hl4 o4 => ?_
  obtain ⟨x4, rfl, a4, b4⟩ := hq4
  have w1 : IntKind.i64.wrap (x1 * 16777216) = x1 * 16777216 := wrap64_of (by omega) (by omega)
  have w2 : IntKind.i64.wrap (x2 * 65536) = x2 * 65536 := wrap64_of (by omega) (by omega)
  have w3 : IntKind.i64.wrap (x3 * 256) = x3 * 256 := wrap64_of (by omega) (by omega)
  have w4 : IntKind.i64.wrap (x1 * 16777216 + x2 * 65536) = x1 * 16777216 + x2 * 65536 := wrap64_of (by omega) (by omega)
  have w5 : IntKind.i64.wrap (x1 * 16777216 + x2 * 65536 + x3 * 256) = x1 * 16777216 + x2 * 65536 + x3 * 256 := wrap64_of (by omega) (by omega)
  have w6 : IntKind.i64.wrap (x1 * 16777216 + x2 * 65536 + x3 * 256 + x4) = x1 * 16777216 + x2 * 65536 + x3 * 256 + x4 := wrap64_of (by omega) (by omega)
  simp [curD, hn0, w1, w2, w3, w4, w5, w6]
  exact .inr ⟨⟨c4, ⟨_, rfl, (tm _ (by omega)).1, fun _ => (tm _ (by omega)).2, fun h => absurd h h0⟩, by simp [curD], o4⟩⟩
theorem w_spec_l1Once (b : Sl Int) (c : Nat × Int) (n : Int) (hb : b.xs.length ≤ 1048576) (hc : curO b c) (hn : n ≤ 1000000000) : VX Try.prog 23 [] [.ptr 1000 0 0, .d (.int .i64 n)] (some ((curD b c).map V.d)) (fun _ r cs _ => CurP b boolQ r cs) := by
  refine VX.of EP s23 (by kernel_rfl) Try.func23 (by rfl) (by kernel_rfl) (by simp [Try.f23]) (by simp [Try.f23]) s23_ok ?_ ?_ fun B hB => ?_
  · simp
  · rintro cs h
    cases h
    simp [curD]
  simp [Try.f23, curD]
  refine call_cur c E38 (w_spec_l1Below b c n hb hc hn) (by simp) (by simp [curD]) (by simp) (by simp) fun r1 c1 hs1 hh1 hq1 hl1 o1 => ?_
  obtain ⟨x1, rfl, a1, b1, d1⟩ := hq1
  simp [curD]
  exact .inr ⟨⟨c1, ⟨_, rfl⟩, by simp [curD], o1⟩⟩
theorem w_spec_l1PickInt (b : Sl Int) (c : Nat × Int) (l : List Int) (hb : b.xs.length ≤ 1048576) (hc : curO b c) (hl0 : l ≠ []) (hll : l.length ≤ 1000) : VX Try.prog 43 [] [.ptr 1000 0 0, .d (pS cI l)] (some ((curD b c).map V.d)) (fun _ r cs _ => CurP b (inQ l) r cs) := by
  refine VX.of EP s43 (by kernel_rfl) Try.func43 (by rfl) (by kernel_rfl) (by simp [Try.f43]) (by simp [Try.f43]) s43_ok ?_ ?_ fun B hB => ?_
  · simp
  · rintro cs h
    cases h
    simp [curD]
  have hp := List.length_pos_iff.2 hl0
  simp [Try.f43, curD]
  refine call_cur c E38 (w_spec_l1Below b c l.length hb hc (by omega)) (by simp) (by simp [curD]) (by simp) (by simp) fun r1 c1 hs1 hh1 hq1 hl1 o1 => ?_
  obtain ⟨x1, rfl, a1, b1, d1⟩ := hq1
  have b1' := b1 (by omega)
  obtain ⟨k, rfl⟩ : ∃ k : Nat, x1 = k := ⟨x1.toNat, by omega⟩
  have hk : k < l.length := by omega
  simp [curD, hk]
  exact .inr ⟨⟨c1, ⟨_, rfl, List.getElem_mem hk⟩, by simp [curD], o1⟩⟩
end

end Go.Proofs.Ytimjeofhffkajaa

namespace Go.Proofs.Ytimjeofhffkajaa
open Go.Vs Go.Proofs Go
set_option maxRecDepth 100000
set_option maxHeartbeats 1000000

def rowQ (n : Int) (v : V) : Prop := ∃ l : List Int, v = .d (.pl (l.map cI)) ∧ (l.length : Int) ≤ max n 0
section
attribute [local simp] pS dSl cP cI cW
theorem w_spec_l4Row (b : Sl Int) (c : Nat × Int) (n most : Int) (hb : b.xs.length ≤ 1048576) (hc : curO b c) (hn : n ≤ 1000) (hm : most ≤ 1000000000) : VX Try.prog 53 [] [.ptr 1000 0 0, .d (.int .i64 n), .d (.int .i64 most)] (some ((curD b c).map V.d)) (fun _ r cs _ => CurP b (rowQ n) r cs) := by
  refine VX.of EP s53 (by kernel_rfl) Try.func53 (by rfl) (by kernel_rfl) (by simp [Try.f53]) (by simp [Try.f53]) s53_ok ?_ ?_ fun B hB => ?_
  · simp
  · rintro cs h
    cases h
    simp [curD]
  simp [Try.f53, curD]
  refine loop_rule (X := (Nat × Int) × List Int) (fun p => curO b p.1 ∧ (p.2.length : Int) ≤ max n 0) (fun p => [(0, .ptr 1000 0 0), (1, .d (.int .i64 n)), (2, .d (.int .i64 most)), (7, .own 8 0 p.2.length)]) (fun p => [(1000, some (.box ((curD b p.1).map V.d))), (8, some (.row 3 1 (p.2.map cI)))]) (fun p => 1000 - p.2.length) (c, []) ⟨hc, by simp; omega⟩ (by simp) (by simp [curD]) ?_
  rintro ⟨c1, l⟩ hs t m ⟨ho, hl⟩ hh
  simp only at ho hl
  by_cases hlt : (l.length : Int) < n
  · have hL : LenOk 8 (l.length + 1) := ⟨by omega, by simp only [maxLen]; omega⟩
    simp [hlt, curD, ]
    refine call_cur c1 E38 (w_spec_l1Below b c1 most hb ho hm) (by simp) (by simp [curD]) (by simp) (by simp) fun r1 c2 hs1 hh1 hq1 hl1 o1 => ?_
    obtain ⟨x, rfl, _⟩ := hq1
    simp [hlt, hL, curD, ]
    exact back (c2, l ++ [x]) ⟨o1, by simp; omega⟩ (by simp; omega) rfl (by simp <;> omega) (by simp) (by simp [curD])
  · simp [hlt, curD, vendX, ]
    exact .inr ⟨⟨c1, ⟨l, by simp [List.take_of_length_le], hl⟩, by simp [curD], ho⟩⟩
end

end Go.Proofs.Ytimjeofhffkajaa

namespace Go.Proofs.Ytimjeofhffkajaa
open Go.Vs Go.Proofs Go
set_option maxRecDepth 100000
set_option maxHeartbeats 1000000

section
attribute [local simp] plI_id plStr_id map_plI map_plStr
theorem e_impl_copyInts (l : List Int) (hb : l.length ≤ 4294967296) :
   VC Try.prog 46 [.d (pS cI l)] (fun n r => ∃ y : Ints, r = .d (dSl cI y) ∧ plS plI y = l ∧ okS okI y ∧ Good (cS cI y) (whS whI y) n) := by
  refine VC.of E s46 (by kernel_rfl) Try.func46 (by rfl) (by kernel_rfl) (by simp [Try.f46]) (by simp [Try.f46]) s46_ok fun B => ?_
  have hL : LenOk 8 l.length := ⟨by omega, by simp only [maxLen]; omega⟩
  simp [Try.f46, pS, hL, cI]
  intro γ hs' h1 hg
  obtain ⟨q1, q2⟩ := gam_at hg (k := 3) (T := 3) (sz := 1) (es := l.map cI) (by simp [cI])
  have q3 := gam_row hg (k := 3) (T := 3) (sz := 1) (es := l.map cI) (by simp [cI])
  clear hg
  have hp : hpLL (l.map cI) = false := hpLL_mapI l
  refine ⟨⟨γ 3, some (3, 1), l⟩, by simp [dSl, List.take_of_length_le, cI], by simp [plS], ⟨by simp only [maxLen]; omega, fun _ _ => trivial⟩, good_row (fun g hg => (q1 g hg).1) (by simpa using q2) q3 ⟨by simp, by simp⟩ (by simp [whI])⟩
theorem e_impl_copyRowsT (l : List (List Int)) (hb : l.length ≤ 4294967296) (hb2 : ∀ r ∈ l, r.length ≤ 4294967296) :
   VC Try.prog 42 [.d (pS (cP cI) l)] (fun n r => ∃ y : Sl Ints, r = .d (dSl (cS cI) y) ∧ plS (plS plI) y = l ∧ okS (okS okI) y ∧ Good (cS (cS cI) y) (whS (whS whI) y) n ∧ y.T = some (25, 1)) := by
  refine VC.of E s42 (by kernel_rfl) Try.func42 (by rfl) (by kernel_rfl) (by simp [Try.f42]) (by simp [Try.f42]) s42_ok fun B => ?_
  simp [Try.f42, pS]
  refine loop_ruleL (X := Nat × List Ints) (CopI (cS cI) (whS whI) (okS okI) (plS plI) l B) (fun p => [(3, .own 16 0 p.2.length), (6, .d (.pl (l.map (cP cI)))), (7, .d (.int .i64 l.length)), (8, .d (.int .i64 p.1))]) (fun p => [(16, some (.row 25 1 (p.2.map (cS cI))))]) (fun p => l.length - p.1) ?_ ?_
  · refine (lead_slot 3 16 25 1 (by omega) (by omega) (by simp)).bind ?_
    rintro _ rfl
    exact Lead.of ⟨(0, []), .zero, rfl, rfl, Nat.le_refl _, by simp, by simp⟩
  rintro ⟨i, ys⟩ hs t m hI hh
  have hle := hI.le
  have hyl := hI.len
  simp only at hle
  by_cases hlt : i < l.length
  · have hwi := wr1 (i := i) (by omega)
    have hL : LenOk 24 (ys.length + 1) := ⟨by omega, by simp only [maxLen]; omega⟩
    simp [hlt, cP, pS, ]
    refine call_some (e_impl_copyInts l[i] (hb2 _ (List.getElem_mem hlt))) (by simp [pS]) (by simp) fun n hs' r hn hn' hp hr => ?_
    obtain ⟨y, rfl, hy1, hy2, hy3⟩ := hp
    simp at hn
    have hr' : ∀ g ∈ idsL (cS cI y), g < hs' := fun g hg => hr g (by rw [idsL_cS] at hg; exact hg)
    simp [cS, dSl, hL, hwi, ]
    exact back2 (i + 1, ys ++ [y]) (hI.snoc hlt hy1 hy2 (by omega) hn' hy3 hr') (by simp only; omega) rfl (by simp <;> omega) (by simp [cP, pS]) (by simp [cS, dSl])
  · have hall := hI.all (by omega)
    simp [hlt, ]
    intro γ hs' h1 hg
    obtain ⟨q1, q2⟩ := gam_at hg (k := 16) (T := 25) (sz := 1) (es := ys.map (cS cI)) (by simp)
    have q3 := gam_row hg (k := 16) (T := 25) (sz := 1) (es := ys.map (cS cI)) (by simp)
    clear hg
    have hp : hpLL (ys.map (cS cI)) = false := hpLL_mapS ys
    refine ⟨⟨γ 16, some (25, 1), ys⟩, by simp [dSl, List.take_of_length_le], by simpa [plS] using hall, ⟨by simp only [maxLen]; show ys.length ≤ _; omega, hI.ok⟩, good_row (fun g hg => (q1 g hg).1) (by simpa using q2) q3 ⟨hI.good.nd, hI.good.lo⟩ hI.good.wh, rfl⟩
theorem e_impl_copyRows (l : List (List Int)) (hb : l.length ≤ 4294967296) (hb2 : ∀ r ∈ l, r.length ≤ 4294967296) :
   VC Try.prog 42 [.d (pS (cP cI) l)] (fun n r => ∃ y : Sl Ints, r = .d (dSl (cS cI) y) ∧ plS (plS plI) y = l ∧ okS (okS okI) y ∧ Good (cS (cS cI) y) (whS (whS whI) y) n) :=
  (e_impl_copyRowsT l hb hb2).weak fun _ _ ⟨y, h1, h2, h3, h4, _⟩ => ⟨y, h1, h2, h3, h4⟩
theorem e_impl_copyRows0 : VC Try.prog 42 [.d (pS (cP cI) [])] (fun _ r => r = .d (.sl none none [])) := by
  refine VC.of E s42 (by kernel_rfl) Try.func42 (by rfl) (by kernel_rfl) (by simp [Try.f42]) (by simp [Try.f42]) s42_ok fun B => ?_
  simp [Try.f42, pS]
  refine loop_rule (X := Unit) (fun _ => True) (fun _ => [(3, .d (.sl none none [])), (6, .d (.pl [])), (7, .d (.int .i64 0)), (8, .d (.int .i64 0))]) (fun _ => []) (fun _ => 0) () trivial (by simp) (by simp) ?_
  intro i hs t m hi hh
  simp []
end

end Go.Proofs.Ytimjeofhffkajaa

namespace Go.Proofs.Ytimjeofhffkajaa
open Go.Vs Go.Proofs Go
set_option maxRecDepth 100000
set_option maxHeartbeats 1000000

section
attribute [local simp] plI_id plStr_id map_plI map_plStr
theorem e_spec_l5Copy (r : PReln) (hb : r.rows.length ≤ 4294967296) (hb2 : ∀ x ∈ r.rows, x.length ≤ 4294967296) :
   VC Try.prog 52 [.agg ((eReln r).map V.d)] (fun n v => ∃ y : Reln, v = .agg ((cReln y).map V.d) ∧ plReln y = r ∧ okReln y ∧ (∀ g, y.rows.id = some g → y.rows.T = some (25, 1)) ∧ Good (cReln y) (whReln y) n) := by
  obtain ⟨ar, l⟩ := r
  simp only at hb hb2
  refine VC.of E s52 (by kernel_rfl) Try.func52 (by rfl) (by kernel_rfl) (by simp [Try.f52]) (by simp [Try.f52]) s52_ok fun B => ?_
  simp [Try.f52, s52_5, eReln, pS, cI]
  refine loop_ruleL (X := Nat × List Ints) (CopI (cS cI) (whS whI) (okS okI) (plS plI) l B) (fun p => [(1, .ptr 1 0 0), (2, .ptr 2 0 0), (3, .ptr 3 0 0), (4, .d (.int .i64 p.1))])
    (fun p => [(1, some (.box [.d (.int .i64 ar), .d (.pl (l.map (cP cI)))])), (2, some (.box [.d (.int .i64 0), .d (.sl none none [])])), (3, some (.box [.d (.int .i64 ar), .own 25 0 p.2.length])), (25, some (.row 25 1 (p.2.map (cS cI))))]) (fun p => l.length - p.1) ?_ ?_
  · refine (lead_box 3 1 25 25 1 [.d (.int .i64 ar), .d (.sl none none [])] (by omega) (by omega) (by omega) (by simp) rfl).bind ?_
    rintro _ rfl
    exact Lead.of ⟨(0, []), .zero, rfl, rfl, Nat.le_refl _, by simp, by simp⟩
  rintro ⟨i, ys⟩ hs t m hI hh
  have hle := hI.le
  have hyl := hI.len
  simp only at hle
  by_cases hlt : i < l.length
  · have hwi := wr1 (i := i) (by omega)
    have hL : LenOk 24 (i + 1) := ⟨by omega, by simp only [maxLen]; omega⟩
    have hx := hb2 _ (List.getElem_mem hlt)
    obtain ⟨row, hrow⟩ : ∃ row, row = l[i] := ⟨_, rfl⟩
    rw [← hrow] at hx
    have hL2 : LenOk 8 row.length := ⟨by omega, by simp only [maxLen]; omega⟩
    refine anyQ2 fun Q => ?_
    simp [hlt, ← hrow, cP, pS, hL2, hyl, List.take_of_length_le, s52_5, ]
    rw [w_bs1 (k' := 17) (ks := []) _ _ _ (by simp) (by simp)]
    intro γ hs' h1 hg
    simp only at h1
    obtain ⟨q1, q2⟩ := gam_at hg (k := 17) (T := 3) (sz := 1) (es := row.map cI) (by simp)
    have q3 := gam_row2 hg (k := 17) (T := 3) (sz := 1) (es := row.map cI) (k2 := 25) (T2 := 25) (sz2 := 1) (es2 := ys.map (cS cI)) (by simp) (by simp)
    clear hg
    have hp : hpLL (row.map cI) = false := hpLL_mapI _
    simp [vpre, vnext, veff, vval, isPure, St.frzs, St.frz, Vs.frz, hp, hL, hwi, hyl, List.take_of_length_le]
    have hid : ∀ L : List Int, idsLL (L.map cI) = [] := fun L => by simp
    have hy : ∀ g, g ∈ idsL (cS cI (⟨γ 17, some (3, 1), row⟩ : Ints)) → γ 17 = some g := fun g hg => by
      rw [idsL_cS] at hg
      rcases mem_sl_ids.1 hg with h | h
      · exact h
      · simp only at h; rw [hid] at h; simp at h
    have hG : Good (cS cI (⟨γ 17, some (3, 1), row⟩ : Ints)) (whS whI ⟨γ 17, some (3, 1), row⟩) B :=
      good_row (fun g hg => (q1 g hg).1) (by simpa using q2) (fun g _ => by rw [hid]; simp) ⟨by rw [hid]; simp, by rw [hid]; simp⟩ (by simp [whI])
    refine back2 (i + 1, ys ++ [⟨γ 17, some (3, 1), row⟩]) ⟨by simp only; omega, ?_, ?_, GoodL.snoc2 hI.good h1 hG (fun g hg => q3 g (hy g hg)) (fun g hg => (q1 g (hy g hg)).2)⟩ (by simp only; omega) rfl (by simp <;> omega) (by simp) (by simp [hyl, cS, dSl])
    · have := hI.pl
      simp only at this
      simp only [List.map_append, List.map_cons, List.map_nil]
      rw [this, List.take_succ_eq_append_getElem hlt, ← hrow]
      simp [plS]
    · intro z hz
      rcases List.mem_append.1 hz with hz | hz
      · exact hI.ok z hz
      · rw [List.mem_singleton.1 hz]
        exact ⟨by simp only [maxLen]; omega, fun _ _ => trivial⟩
  · have hall := hI.all (by omega)
    simp [hlt, hyl, s52_5, ]
    intro γ hs' h1 hg
    obtain ⟨q1, q2⟩ := gam_at hg (k := 25) (T := 25) (sz := 1) (es := ys.map (cS cI)) (by simp)
    have q3 := gam_row hg (k := 25) (T := 25) (sz := 1) (es := ys.map (cS cI)) (by simp)
    clear hg
    have hp : hpLL (ys.map (cS cI)) = false := hpLL_mapS ys
    simp [hp, hyl, List.take_of_length_le]
    refine ⟨⟨ar, ⟨γ 25, some (25, 1), ys⟩⟩, by simp [cReln, cI, cS, dSl, hyl, List.take_of_length_le], by simp [plReln, plS, hall], ⟨trivial, ⟨by simp only [maxLen]; show ys.length ≤ _; omega, hI.ok⟩⟩, fun _ _ => rfl, good_Reln (good_row (fun g hg => (q1 g hg).1) (by simpa using q2) q3 ⟨hI.good.nd, hI.good.lo⟩ hI.good.wh) (Nat.le_refl _)⟩
end

end Go.Proofs.Ytimjeofhffkajaa

namespace Go.Proofs.Ytimjeofhffkajaa
open Go.Vs Go.Proofs Go
set_option maxRecDepth 100000
set_option maxHeartbeats 1000000

theorem w_spec_l5Sort : ∀ (n : Nat) (l : List (List Int)), l.length ≤ n → l.length ≤ 4294967296 → VC Try.prog 54 [.d (pS (cP cI) l)] (fun _ r => r = .d (pS (cP cI) (srtU l))) := by
  intro n
  induction n with
  | zero =>
    intro l hn hb
    have : l = [] := List.length_eq_zero_iff.1 (by omega)
    subst this
    refine VC.ofL EP s54 (by kernel_rfl) Try.func54 (by rfl) (by kernel_rfl) (by simp [Try.f54]) (by simp [Try.f54]) s54_ok fun B hl => ?_
    simp [Try.f54, s54_13, srtU]
  | succ n ih =>
  intro l hn hb
  refine VC.ofL EP s54 (by kernel_rfl) Try.func54 (by rfl) (by kernel_rfl) (by simp [Try.f54]) (by simp [Try.f54]) s54_ok fun B hl => ?_
  by_cases h2 : l.length < 2
  · have e : srtU l = l := srtU_id (by
      match l, h2 with
      | [], _ => exact .nil
      | [_], _ => simp
      | _ :: _ :: _, h => simp only [List.length_cons] at h; omega)
    simp [Try.f54, s54_13, show ((l.length : Int) < 2) by omega, e]
  obtain ⟨k, hk⟩ : ∃ k, k = l.length / 2 := ⟨_, rfl⟩
  have hm : IntKind.i64.wrap ((l.length : Int) / 2) = (k : Int) := by rw [wrap64_of (by omega) (by omega)]; omega
  simp [Try.f54, s54_13, show ¬ ((l.length : Int) < 2) by omega, hm, show k ≤ l.length by omega]
  refine call_p (ih (l.take k) (by simp; omega) (by simp; omega)) (by simp [List.map_take]) fun hs1 hh1 _ => ?_
  simp at hh1
  simp [hm, show k ≤ l.length by omega, List.take_of_length_le]
  refine call_p (ih (l.drop k) (by simp; omega) (by simp; omega)) (by simp [List.map_drop]) fun hs2 hh2 _ => ?_
  simp at hh2
  simp
  have hst := MI.start l k
  generalize srtU (l.take k) = a0 at hst
  generalize srtU (l.drop k) = b0 at hst
  refine loop_rule (X := List (List Int) × List (List Int) × List (List Int)) (fun p => MI l p.1 p.2.1 p.2.2)
    (fun p => [(4, .d (.pl (p.1.map (cP cI)))), (5, .d (.pl (p.2.1.map (cP cI)))), (6, .own 24 0 p.2.2.length)]) (fun p => [(24, some (.row 25 1 (p.2.2.map (cP cI))))]) (fun p => p.1.length + p.2.1.length) (a0, b0, []) hst (by simp) (by simp) ?_
  rintro ⟨a, b, out⟩ hs t m hI hh
  simp only at hI
  have hlen := hI.len
  have hL24 : LenOk 24 1 := ⟨by omega, by simp only [maxLen]; omega⟩
  have hpa : ∀ a : List (List Int), (0 : Int) < (a.length : Int) + 1 := fun a => by omega
  have hpb : ∀ a : List (List Int), ¬ (a.length : Int) + 1 = 0 := fun a => by omega
  have hqa : (0 : Int) < 1 := by omega
  have hqb : ¬ (0 : Int) < -1 := by omega
  rcases a with _ | ⟨x, a⟩
  · rcases b with _ | ⟨y, b⟩
    · have hd := hI.done
      subst hd
      simp [List.take_of_length_le]
    · refine anyQ fun Q => ?_
      have hc0 : True := trivial
      have hI' := hI.swap
      have hL := hI'.left (by simp)
      rcases nil_or_snoc out with rfl | ⟨o, z, rfl⟩
      · simp [hc0, hpa, hpb, hqa, hqb, List.take_of_length_le, cP, hL24, s54_13, ]
        exact back ([], b, [y]) (MI.swap (hL.2 (by simp))) (by simp <;> omega) rfl (by simp <;> omega) (by simp) (by simp)
      · simp only [List.length_append, List.length_cons, List.length_nil] at hlen
        have hw : IntKind.i64.wrap (o.length : Int) = o.length := wrap64_of (by omega) (by omega)
        have hix : (o.map (cP cI) ++ [[D.pl (z.map cI)]])[o.length]? = some [D.pl (z.map cI)] := by rw [List.getElem?_append_right (by simp)]; simp
        simp [hc0, hpa, hpb, hqa, hqb, List.take_of_length_le, hw, hix, cP, s54_13, ]
        refine call_f (w_spec_CompareRows z y) (by simp) rfl fun hs3 hh3 => ?_
        simp at hh3
        by_cases e : z = y
        · subst e
          simp [cmpL_self]
          exact back ([], b, o ++ [z]) (MI.swap (hL.1 (hI'.last.2 rfl))) (by simp <;> omega) rfl (by simp <;> omega) (by simp) (by simp)
        · have e' : ¬ cmpL z y = 0 := fun h => e ((cmpL_zero _ _).1 h)
          simp [e', show LenOk 24 (o.length + 1 + 1) from ⟨by omega, by simp only [maxLen]; omega⟩, cP]
          exact back ([], b, o ++ [z] ++ [y]) (MI.swap (hL.2 fun h => e (hI'.last.1 h))) (by simp <;> omega) rfl (by simp <;> omega) (by simp) (by simp)
  · rcases b with _ | ⟨y, b⟩
    · refine anyQ fun Q => ?_
      have hc0 : True := trivial
      have hL := hI.left (by simp)
      rcases nil_or_snoc out with rfl | ⟨o, z, rfl⟩
      · simp [hc0, hpa, hpb, hqa, hqb, List.take_of_length_le, cP, hL24, s54_13, ]
        exact back (a, [], [x]) ((hL.2 (by simp))) (by simp <;> omega) rfl (by simp <;> omega) (by simp) (by simp)
      · simp only [List.length_append, List.length_cons, List.length_nil] at hlen
        have hw : IntKind.i64.wrap (o.length : Int) = o.length := wrap64_of (by omega) (by omega)
        have hix : (o.map (cP cI) ++ [[D.pl (z.map cI)]])[o.length]? = some [D.pl (z.map cI)] := by rw [List.getElem?_append_right (by simp)]; simp
        simp [hc0, hpa, hpb, hqa, hqb, List.take_of_length_le, hw, hix, cP, s54_13, ]
        refine call_f (w_spec_CompareRows z x) (by simp) rfl fun hs3 hh3 => ?_
        simp at hh3
        by_cases e : z = x
        · subst e
          simp [cmpL_self]
          exact back (a, [], o ++ [z]) ((hL.1 (hI.last.2 rfl))) (by simp <;> omega) rfl (by simp <;> omega) (by simp) (by simp)
        · have e' : ¬ cmpL z x = 0 := fun h => e ((cmpL_zero _ _).1 h)
          simp [e', show LenOk 24 (o.length + 1 + 1) from ⟨by omega, by simp only [maxLen]; omega⟩, cP]
          exact back (a, [], o ++ [z] ++ [x]) ((hL.2 fun h => e (hI.last.1 h))) (by simp <;> omega) rfl (by simp <;> omega) (by simp) (by simp)
    · refine anyQ fun Q => ?_
      simp [cP, hpa, hpb, s54_13, ]
      refine call_f (w_spec_CompareRows x y) (by simp) rfl fun hs0 hh0 => ?_
      simp at hh0
      by_cases hc0 : 0 < cmpL x y
      · have hI' := hI.swap
        have hL := hI'.left (hI.hr hc0)
        rcases nil_or_snoc out with rfl | ⟨o, z, rfl⟩
        · simp [hc0, hpa, hpb, hqa, hqb, List.take_of_length_le, cP, hL24, s54_13, ]
          exact back ((x :: a), b, [y]) (MI.swap (hL.2 (by simp))) (by simp <;> omega) rfl (by simp <;> omega) (by simp) (by simp)
        · simp only [List.length_append, List.length_cons, List.length_nil] at hlen
          have hw : IntKind.i64.wrap (o.length : Int) = o.length := wrap64_of (by omega) (by omega)
          have hix : (o.map (cP cI) ++ [[D.pl (z.map cI)]])[o.length]? = some [D.pl (z.map cI)] := by rw [List.getElem?_append_right (by simp)]; simp
          simp [hc0, hpa, hpb, hqa, hqb, List.take_of_length_le, hw, hix, cP, s54_13, ]
          refine call_f (w_spec_CompareRows z y) (by simp) rfl fun hs3 hh3 => ?_
          simp at hh3
          by_cases e : z = y
          · subst e
            simp [cmpL_self]
            exact back ((x :: a), b, o ++ [z]) (MI.swap (hL.1 (hI'.last.2 rfl))) (by simp <;> omega) rfl (by simp <;> omega) (by simp) (by simp)
          · have e' : ¬ cmpL z y = 0 := fun h => e ((cmpL_zero _ _).1 h)
            simp [e', show LenOk 24 (o.length + 1 + 1) from ⟨by omega, by simp only [maxLen]; omega⟩, cP]
            exact back ((x :: a), b, o ++ [z] ++ [y]) (MI.swap (hL.2 fun h => e (hI'.last.1 h))) (by simp <;> omega) rfl (by simp <;> omega) (by simp) (by simp)
      · 
        have hL := hI.left (hI.hl hc0)
        rcases nil_or_snoc out with rfl | ⟨o, z, rfl⟩
        · simp [hc0, hpa, hpb, hqa, hqb, List.take_of_length_le, cP, hL24, s54_13, ]
          exact back (a, (y :: b), [x]) ((hL.2 (by simp))) (by simp <;> omega) rfl (by simp <;> omega) (by simp) (by simp)
        · simp only [List.length_append, List.length_cons, List.length_nil] at hlen
          have hw : IntKind.i64.wrap (o.length : Int) = o.length := wrap64_of (by omega) (by omega)
          have hix : (o.map (cP cI) ++ [[D.pl (z.map cI)]])[o.length]? = some [D.pl (z.map cI)] := by rw [List.getElem?_append_right (by simp)]; simp
          simp [hc0, hpa, hpb, hqa, hqb, List.take_of_length_le, hw, hix, cP, s54_13, ]
          refine call_f (w_spec_CompareRows z x) (by simp) rfl fun hs3 hh3 => ?_
          simp at hh3
          by_cases e : z = x
          · subst e
            simp [cmpL_self]
            exact back (a, (y :: b), o ++ [z]) ((hL.1 (hI.last.2 rfl))) (by simp <;> omega) rfl (by simp <;> omega) (by simp) (by simp)
          · have e' : ¬ cmpL z x = 0 := fun h => e ((cmpL_zero _ _).1 h)
            simp [e', show LenOk 24 (o.length + 1 + 1) from ⟨by omega, by simp only [maxLen]; omega⟩, cP]
            exact back (a, (y :: b), o ++ [z] ++ [x]) ((hL.2 fun h => e (hI.last.1 h))) (by simp <;> omega) rfl (by simp <;> omega) (by simp) (by simp)

end Go.Proofs.Ytimjeofhffkajaa

namespace Go.Proofs.Ytimjeofhffkajaa
open Go.Vs Go.Proofs Go
set_option maxRecDepth 100000
set_option maxHeartbeats 1000000

theorem w_spec_NewRelation (ar : Int) (l : List (List Int)) (hb : l.length ≤ 4294967296) (hn : ∀ x ∈ l, x.length ≤ 4294967296) : VC Try.prog 47 [.d (.int .i64 ar), .d (pS (cP cI) l)] (fun _ v => v = .tup [.agg ((eReln (newR ar l)).map .d), .d (.bool (newB ar l))]) := by
  refine VC.ofL EP s47 (by kernel_rfl) Try.func47 (by rfl) (by kernel_rfl) (by simp [Try.f47]) (by simp [Try.f47]) s47_ok fun B hl => ?_
  simp [Try.f47, eReln]
  refine loop_rule (X := Nat) (fun i => i ≤ l.length ∧ AllTo (fun r : List Int => decide ((r.length : Int) = ar) && valsOk r) l i) (fun i => [(0, .d (.int .i64 ar)), (1, .d (.pl (l.map (cP cI)))), (4, .ptr 4 0 0), (6, .d (.int .i64 i))])
    (fun i => [(4, some (.box [.d (.int .i64 0), .d (.sl none none [])]))]) (fun i => l.length - i) 0 ⟨by simp, allTo_zero⟩ (by simp) (by simp) ?_
  intro i hs t m hi hh
  by_cases hlt : i < l.length
  · have hwi := wr1 (i := i) (by omega)
    by_cases hln : (l[i].length : Int) = ar
    · simp [hlt, hln, cP, ]
      refine call_f (w_spec_AreValidValues l[i]) (by simp) rfl fun hs1 hh1 => ?_
      simp at hh1
      cases hv : valsOk l[i]
      · have hbad := all_bad (p := fun r : List Int => decide ((r.length : Int) = ar) && valsOk r) hlt (by simp [hv])
        simp [newR, newB, hbad, eReln]
      · simp [hwi]
        exact back (i + 1) ⟨by omega, allTo_step hi.2 hlt (by simp [hv, hln])⟩ (by omega) rfl (by simp <;> omega) (by simp) (by simp)
    · have hbad := all_bad (p := fun r : List Int => decide ((r.length : Int) = ar) && valsOk r) hlt (by simp [hln])
      simp [hlt, hln, newR, newB, hbad, eReln, ]
  · have hd := allTo_done hi.2 (by omega)
    have hsl := srtU_len l
    simp [hlt, ]
    refine call_p (w_spec_l5Sort _ l (Nat.le_refl _) hb) (by simp) fun hs1 hh1 _ => ?_
    simp at hh1
    simp []
    refine call_p (w_spec_l5Copy ⟨ar, srtU l⟩ (by simp; omega) (fun x hx => hn x ((srtU_mem l x).1 hx))) (by simp [eReln]) fun hs2 hh2 _ => ?_
    simp at hh2
    simp [eReln]
    refine call_f (w_spec_IsValidRelation ⟨ar, srtU l⟩) (by simp [eReln]) rfl fun hs3 hh3 => ?_
    simp at hh3
    cases h1 : rowsOk ar (srtU l)
    · simp [newR, newB, h1, eReln]
    · simp [newR, newB, h1, hd, eReln]

end Go.Proofs.Ytimjeofhffkajaa

namespace Go.Proofs.Ytimjeofhffkajaa
open Go.Vs Go.Proofs Go
set_option maxRecDepth 100000
set_option maxHeartbeats 1000000

theorem e_spec_NewRelation (ar : Int) (l : List (List Int)) (hb : l.length ≤ 4294967296) (hn : ∀ x ∈ l, x.length ≤ 4294967296) : VC Try.prog 47 [.d (.int .i64 ar), .d (pS (cP cI) l)]
   (fun n v => ∃ y : Reln, v = .tup [.agg ((cReln y).map V.d), .d (.bool (newB ar l))] ∧ plReln y = newR ar l ∧ okReln y ∧ Good (cReln y) (whReln y) n) := by
  refine VC.of E s47 (by kernel_rfl) Try.func47 (by rfl) (by kernel_rfl) (by simp [Try.f47]) (by simp [Try.f47]) s47_ok fun B => ?_
  have fail : newB ar l = false → ∃ y : Reln, V.tup [V.agg [V.d (D.int IntKind.i64 0), V.d (D.sl none none [])], V.d (D.bool false)] = .tup [.agg ((cReln y).map V.d), .d (.bool (newB ar l))] ∧ plReln y = newR ar l ∧ okReln y ∧ Good (cReln y) (whReln y) B := fun h =>
    ⟨⟨0, nilS⟩, by rw [h]; simp [cReln, cI, cS, dSl, nilS], by simp [newR, h, plReln, plI, nilS, plS], ⟨trivial, ok_nilS⟩, good_Reln0 B⟩
  simp [Try.f47, pS]
  refine loop_rule (X := Nat) (fun i => i ≤ l.length ∧ AllTo (fun r : List Int => decide ((r.length : Int) = ar) && valsOk r) l i) (fun i => [(0, .d (.int .i64 ar)), (1, .d (.pl (l.map (cP cI)))), (4, .ptr 4 0 0), (6, .d (.int .i64 i))])
    (fun i => [(4, some (.box [.d (.int .i64 0), .d (.sl none none [])]))]) (fun i => l.length - i) 0 ⟨by simp, allTo_zero⟩ (by simp) (by simp) ?_
  intro i hs t m hi hh
  by_cases hlt : i < l.length
  · have hwi := wr1 (i := i) (by omega)
    by_cases hln : (l[i].length : Int) = ar
    · simp [hlt, hln, cP, pS, ]
      refine call_f (w_spec_AreValidValues l[i]) (by simp [pS]) rfl fun hs1 hh1 => ?_
      simp at hh1
      cases hv : valsOk l[i]
      · have hbad := all_bad (p := fun r : List Int => decide ((r.length : Int) = ar) && valsOk r) hlt (by simp [hv])
        simp []
        simpa using fail (by simp [newB, hbad])
      · simp [hwi]
        exact back (i + 1) ⟨by omega, allTo_step hi.2 hlt (by simp [hv, hln])⟩ (by omega) rfl (by simp <;> omega) (by simp [cP, pS]) (by simp)
    · have hbad := all_bad (p := fun r : List Int => decide ((r.length : Int) = ar) && valsOk r) hlt (by simp [hln])
      simp [hlt, hln, cP, pS, ]
      simpa using fail (by simp [newB, hbad])
  · have hd := allTo_done hi.2 (by omega)
    have hsl := srtU_len l
    simp [hlt, ]
    refine call_p (w_spec_l5Sort _ l (Nat.le_refl _) hb) (by simp [pS]) fun hs1 hh1 _ => ?_
    simp at hh1
    simp []
    refine call_some (e_spec_l5Copy ⟨ar, srtU l⟩ (by simp; omega) (fun x hx => hn x ((srtU_mem l x).1 hx))) (by simp [eReln, pS, cI, cP]) (by simp [eReln, pS, cI, cP]) fun n2 hs2 r2 hn2 hm2 hp2 hr2 => ?_
    obtain ⟨⟨ya, ⟨yid, yT, ys⟩⟩, rfl, p2, k2, _, G2⟩ := hp2
    simp at hn2
    have hya : ya = ar ∧ ys.map (plS plI) = srtU l := by
      simp only [plReln, plS, plI, PReln.mk.injEq] at p2
      exact p2
    simp [cReln, cI, cS, dSl, ]
    refine call_f (w_spec_IsValidRelation ⟨ar, srtU l⟩) (by simp [eReln, cP, pS, cI, hya.1, ← hya.2, erLL_map (er_cS er_cI)]) rfl fun hs3 hh3 => ?_
    simp at hh3
    cases h1 : rowsOk ar (srtU l)
    · have hB : newB ar l = false := by simp [newB, h1]
      obtain ⟨y, e1, e2⟩ := fail hB
      simp []
      exact ⟨y, by simpa [cReln, cI, cS, dSl] using e1, e2⟩
    · have hB : newB ar l = true := by simp [newB, h1, hd]
      simp []
      exact ⟨⟨ya, ⟨yid, yT, ys⟩⟩, by simp [cReln, cI, cS, dSl, hB], by rw [p2, newR, if_pos hB], k2, G2.le (by omega)⟩

end Go.Proofs.Ytimjeofhffkajaa

namespace Go.Proofs.Ytimjeofhffkajaa
open Go.Vs Go.Proofs Go
set_option maxRecDepth 100000
set_option maxHeartbeats 1000000

/-- what the draw of a relation leaves -/
structure RelC (b : Sl Int) (n : Nat) (r : V) (cs : List V) : Prop where
  ex : ∃ (c' : Nat × Int) (y : Reln), r = .agg ((cReln y).map V.d) ∧ rowsOk (plReln y).ar (plReln y).rows = true ∧ (y.rows.xs.length ≤ 1000 ∧ y.ar ≤ 1000) ∧ okReln y ∧ Good (cReln y) (whReln y) n ∧ cs = (curD b c').map V.d ∧ curO b c'
theorem newR_ok (ar : Int) (l : List (List Int)) : rowsOk (newR ar l).ar (newR ar l).rows = true := by
  unfold newR
  split
  · rename_i h
    simp only [newB, Bool.and_eq_true] at h
    exact h.2
  · decide
theorem newR_ar (ar : Int) (l : List (List Int)) (h : ar ≤ 1000) : (newR ar l).ar ≤ 1000 := by
  unfold newR
  split
  · exact h
  · simp
theorem newR_len (ar : Int) (l : List (List Int)) : (newR ar l).rows.length ≤ l.length := by
  unfold newR
  split
  · exact srtU_len l
  · simp
@[simp] theorem startX4b (a b c d : V) (W : List Nat) (cs : List V) (B : Nat) : St.startX [a, b, c, d] W (some cs) B = ⟨B, B, W, upd (upd (upd (upd (fun _ => .tup []) 3 d) 2 c) 1 b) 0 a, upd (fun _ => none) 1000 (some (.box cs))⟩ := by
  simp only [St.startX, St.mk.injEq, true_and]
  refine ⟨?_, startX_box cs⟩
  funext i; match i with | 0 => rfl | 1 => rfl | 2 => rfl | 3 => rfl | _ + 4 => rfl
section
attribute [local simp] pS dSl cP cI cW
theorem w_spec_l5Rel (b : Sl Int) (c : Nat × Int) (ar most val : Int) (hb : b.xs.length ≤ 1048576) (hc : curO b c) (har : ar ≤ 1000) (hm : 0 ≤ most ∧ most ≤ 1000) (hv : val ≤ 1000000000) : VX Try.prog 45 [] [.ptr 1000 0 0, .d (.int .i64 ar), .d (.int .i64 most), .d (.int .i64 val)] (some ((curD b c).map V.d)) (fun n r cs _ => RelC b n r cs) := by
  refine VX.of E s45 (by kernel_rfl) Try.func45 (by rfl) (by kernel_rfl) (by simp [Try.f45]) (by simp [Try.f45]) s45_ok ?_ ?_ fun B hB => ?_
  · simp
  · rintro cs h
    cases h
    simp [curD]
  have hw : IntKind.i64.wrap (most + 1) = most + 1 := wrap64_of (by omega) (by omega)
  simp [Try.f45, curD, hw]
  refine call_cur c E38 (w_spec_l1Below b c (most + 1) hb hc (by omega)) (by simp) (by simp [curD]) (by simp) (by simp) fun r1 c1 hs1 hh1 hq1 hl1 o1 => ?_
  have hB1 : B ≤ hs1 := hh1
  obtain ⟨x, rfl, x0, x1, _⟩ := hq1
  have x1' := x1 (by omega)
  obtain ⟨N, rfl⟩ : ∃ N : Nat, x = N := ⟨x.toNat, by omega⟩
  simp [curD]
  refine loop_rule (X := (Nat × Int) × List (List Int) × Nat) (fun p => curO b p.1 ∧ p.2.1.length + p.2.2 ≤ N ∧ ∀ x ∈ p.2.1, x.length ≤ 1000) (fun p => [(0, .ptr 1000 0 0), (1, .d (.int .i64 ar)), (3, .d (.int .i64 val)), (8, .ptr 8 0 0), (9, .own 13 0 p.2.1.length), (10, .d (.int .i64 p.2.2))]) (fun p => [(1000, some (.box ((curD b p.1).map V.d))), (8, some (.box [.d (.int .i64 0), .d (.sl none none [])])), (13, some (.row 25 1 (p.2.1.map (cP cI))))]) (fun p => p.2.2) (c1, [], N) ⟨o1, by simp, by simp⟩ (by simp) (by simp [curD]) ?_
  rintro ⟨c2, l, k⟩ hs t m ⟨ho, hl, hlm⟩ hh
  simp only at ho hl hlm
  cases k with
  | zero =>
    simp [curD, ]
    refine call_pq (e_spec_NewRelation ar l (by omega) (fun x hx => by have := hlm x hx; omega)) (by simp [List.take_of_length_le]) fun n4 hs4 r4 hn4 hm4 hp4 hl4 => ?_
    obtain ⟨⟨ya, ⟨yid, yT, ys⟩⟩, rfl, p4, k4, G4⟩ := hp4
    simp at hn4
    simp [cReln, cS, dSl, vendX, ]
    intro γ hs' h1 hg
    clear hg
    refine ⟨⟨c2, ⟨ya, ⟨yid, yT, ys⟩⟩, by simp [cReln, cS, dSl], by rw [p4]; exact newR_ok ar l, ⟨by have := newR_len ar l; rw [← p4] at this; simp [plReln, plS] at this; simp only; omega, by have := newR_ar ar l har; rw [← p4] at this; exact this⟩, k4, G4.le (by omega), by simp [curD], ho⟩⟩
  | succ k =>
  obtain ⟨u, hu⟩ : ∃ u : Nat, u = k + 1 := ⟨_, rfl⟩
  have hup : 0 < u := by omega
  have hwm : IntKind.i64.wrap ((u : Int) - 1) = k := by rw [wrap64_of (by omega) (by omega)]; omega
  have hL : LenOk 24 (l.length + 1) := ⟨by omega, by simp only [maxLen]; omega⟩
  rw [← hu] at hl ⊢
  simp [hup, curD, ]
  refine call_cur c2 E53 (w_spec_l4Row b c2 ar val hb ho har hv) (by simp) (by simp [curD]) (by simp) (by simp) fun r3 c3 hs3 hh3 hq3 hl3 o3 => ?_
  obtain ⟨row, rfl, hrow⟩ := hq3
  simp [hL, hwm, curD, List.take_of_length_le, ]
  refine back (c3, l ++ [row], k) ⟨o3, by simp; omega, fun x hx => ?_⟩ (by simp only; omega) rfl (by simp <;> omega) (by simp) (by simp [curD])
  rcases List.mem_append.1 hx with hx | hx
  · exact hlm x hx
  · rw [List.mem_singleton.1 hx]; omega
end

end Go.Proofs.Ytimjeofhffkajaa

namespace Go.Proofs.Ytimjeofhffkajaa
open Go.Vs Go.Proofs Go
set_option maxRecDepth 100000
set_option maxHeartbeats 1000000

section
attribute [local simp] plI_id plStr_id map_plI map_plStr
theorem e_spec_CountedFromRelation (r : PReln) : VC Try.prog 44 [.agg ((eReln r).map V.d)]
   (fun n v => ∃ y : Cnt, v = .tup [.agg ((cCnt y).map V.d), .d (.bool (rowsOk r.ar r.rows))] ∧ plCnt y = cntOf r ∧ okCnt y ∧ ((∀ g, y.rows.id = some g → y.rows.T = some (25, 1)) ∧ ∀ g, y.cs.id = some g → y.cs.T = some (3, 1)) ∧ Good (cCnt y) (whCnt y) n) := by
  refine VC.of E s44 (by kernel_rfl) Try.func44 (by rfl) (by kernel_rfl) (by simp [Try.f44]) (by simp [Try.f44]) s44_ok fun B => ?_
  simp [Try.f44, eReln, pS, cI]
  refine call_f (w_spec_IsValidRelation r) (by simp [eReln, pS, cI]) rfl fun hs0 hh0 => ?_
  simp at hh0
  cases h1 : rowsOk r.ar r.rows
  · simp []
    exact ⟨⟨0, nilS, nilS⟩, by simp [cCnt, cI, nilS, cS, dSl], by simp only [cntOf, h1]; rfl, ⟨trivial, ok_nilS, ok_nilS⟩, ⟨fun g hg => (by cases hg), fun g hg => (by cases hg)⟩, good_Cnt0 B⟩
  have hlen := rowsOk_len h1
  have hrow := rowsOk_row h1
  simp []
  refine call_some (e_spec_l5Copy r (by omega) (fun x hx => by have := hrow x hx; omega)) (by simp [eReln, pS, cI]) (by simp [eReln, pS, cI]) fun n1 hs1 r1 hn1 hm1 hp1 hr1 => ?_
  obtain ⟨⟨ya, y1⟩, rfl, p1, k1, T1, G1⟩ := hp1
  simp at hn1
  have hya : ya = r.ar ∧ plS (plS plI) y1 = r.rows := by
    have e1 := congrArg PReln.ar p1
    have e2 := congrArg PReln.rows p1
    exact ⟨e1, e2⟩
  have G1' : Good (cS (cS cI) y1) (whS (whS whI) y1) n1 := by
    refine ⟨?_, fun g hg => G1.lo g (by rw [cReln, idsL_app]; exact List.mem_append.2 (.inr hg)), G1.wh.2⟩
    have := G1.nd
    rw [cReln, idsL_app] at this
    exact (List.nodup_append.1 this).2.1
  simp [cReln, cS, cI, dSl, ]
  refine loop_ruleL (X := Nat) (fun i _ => i ≤ r.rows.length) (fun i => [(1, .ptr 1 0 0), (2, .ptr 2 0 0), (5, .ptr 5 0 0), (6, .d (.int .i64 i))])
    (fun i => [(1, some (.box [.d (.int .i64 r.ar), .d (.pl (r.rows.map (cP cI)))])), (2, some (.box [.d (.int .i64 0), .d (.sl none none []), .d (.sl none none [])])), (5, some (.box [.d (.int .i64 r.ar), .d (dSl (cS cI) y1), .own 28 0 i])), (28, some (.row 3 1 ((List.replicate i 1).map cI)))]) (fun i => r.rows.length - i) ?_ ?_
  · refine (lead_box 5 2 28 3 1 [.d (.int .i64 r.ar), .d (dSl (cS cI) y1), .d (.sl none none [])] (by omega) (by omega) (by omega) (by simp [dSl]) rfl).bind ?_
    rintro _ rfl
    exact Lead.of ⟨0, by simp, rfl, rfl, Nat.le_refl _, by simp, by simp [dSl]⟩
  · intro i hs t m hi hh
    by_cases hlt : i < r.rows.length
    · have hwi := wr1 (i := i) (by omega)
      have hL : LenOk 8 (i + 1) := ⟨by omega, by simp only [maxLen]; omega⟩
      simp [hlt, hL, hwi, cI, ]
      refine back2 (i + 1) (by omega) (by omega) rfl (by simp <;> omega) (by simp) ?_
      simp [List.replicate_succ', cI]
    · have hn : i = r.rows.length := by omega
      subst hn
      simp [List.take_of_length_le]
      intro γ hs' h2 hg
      obtain ⟨q1, q2⟩ := gam_at hg (k := 28) (T := 3) (sz := 1) (es := (List.replicate r.rows.length 1).map cI) (by simp)
      have qf : ∀ g, γ 28 = some g → g ∉ (dSl (cS cI) y1).ids := fun g hγ => by
        have hb := (hg.fr 28 3 1 _ g (by simp; rfl) hγ).1.box 5 [.d (.int .i64 r.ar), .d (dSl (cS cI) y1), .own 28 0 r.rows.length] (by simp)
        simpa [V.ids, idsVL, D.ids, idsLL] using hb
      clear hg
      refine ⟨⟨r.ar, y1, ⟨γ 28, some (3, 1), List.replicate r.rows.length 1⟩⟩, by simp [cCnt, cS, cI, dSl, h1], ?_, ⟨trivial, k1.2, ⟨by simp only [maxLen, List.length_replicate]; omega, fun _ _ => trivial⟩⟩, ⟨T1, fun _ _ => rfl⟩, good_Cnt G1' (by omega) (fun g hg => (q1 g hg).1) (by simpa using q2) qf⟩
      rw [cntOf, if_pos h1, plCnt]
      simp only [hya.2]
      simp [plS, plI]
end

end Go.Proofs.Ytimjeofhffkajaa

namespace Go.Proofs.Ytimjeofhffkajaa
open Go.Vs Go.Proofs Go
set_option maxRecDepth 100000
set_option maxHeartbeats 1000000

/-- what the draw of a counted relation leaves -/
structure CntC (t1 t2 : Nat) (b : Sl Int) (n : Nat) (r : V) (cs : List V) : Prop where
  ex : ∃ (c' : Nat × Int) (z : Cnt), r = .agg ((cCnt z).map V.d) ∧ (z.rows.xs.length ≤ 1000 ∧ z.cs.xs.length = z.rows.xs.length ∧ z.ar ≤ 1000) ∧ okCnt z ∧ ((∀ g, z.rows.id = some g → z.rows.T = some (t1, 1)) ∧ ∀ g, z.cs.id = some g → z.cs.T = some (t2, 1)) ∧ Good (cCnt z) (whCnt z) n ∧ cs = (curD b c').map V.d ∧ curO b c'
theorem call_curK {P : Program} {E : Md} {args : List Operand} {f : FuncId} {rest As : List V} {k : Nat} {dst : Option Tmp} {K : St → Prop} {σ : St} {b : Sl Int} {q : V → Prop} (c : Nat × Int) (hE : E f = true)
    (hc : VX P f [] (.ptr 1000 0 0 :: As) (some ((curD b c).map V.d)) (fun _ r cs _ => CurP b q r cs)) (hvs : args.map σ.ev = .ptr k 0 0 :: rest) (hm : σ.m k = some (.box ((curD b c).map V.d)))
    (hr : rpL σ.m rest = some As)
    (hK : ∀ r c' hs', σ.hs ≤ hs' → q r → r.ln → curO b c' → K ({ (σ.frps (keysVL rest)) with hs := hs', m := upd (σ.frps (keysVL rest)).m k (some (.box ((curD b c').map V.d))) }.put dst r)) : vcallA P E f args (.ptr k 0 0 :: rest) dst K σ := by
  refine call_xt hE hvs hm hr (by simp [curD, dSl]) hc fun r cs' ws n hs' h1 h2 h3 h4 h5 => ?_
  obtain ⟨c', hq, rfl, ho⟩ := h3.ex
  have : keysVL rest ++ keysVL ((curD b c).map V.d) = keysVL rest := by simp [curD]
  rw [this]
  exact hK r c' hs' (Nat.le_trans h1 h2) hq h4 ho
/-- a call that is handed the cursor and hands back a new relation -/
theorem call_rel {P : Program} {E : Md} {args : List Operand} {f : FuncId} {rest As : List V} {k : Nat} {dst : Option Tmp} {K : St → Prop} {σ : St} {b : Sl Int} (c : Nat × Int) (hE : E f = true)
    (hc : VX P f [] (.ptr 1000 0 0 :: As) (some ((curD b c).map V.d)) (fun n r cs _ => RelC b n r cs)) (hvs : args.map σ.ev = .ptr k 0 0 :: rest) (hm : σ.m k = some (.box ((curD b c).map V.d)))
    (hr : rpL σ.m rest = some As) (hk : keysVL rest = [])
    (hK : ∀ (y : Reln) c' n hs', σ.hs ≤ n → n ≤ hs' → rowsOk (plReln y).ar (plReln y).rows = true → (y.rows.xs.length ≤ 1000 ∧ y.ar ≤ 1000) → okReln y → Good (cReln y) (whReln y) n → curO b c' → K ({ σ with hs := hs', m := upd σ.m k (some (.box ((curD b c').map V.d))) }.put dst (.agg ((cReln y).map V.d)))) : vcallA P E f args (.ptr k 0 0 :: rest) dst K σ := by
  refine call_xt hE hvs hm hr (by simp [curD, dSl]) hc fun r cs' ws n hs' h1 h2 h3 h4 h5 => ?_
  obtain ⟨c', y, rfl, h6, hln, h7, h8, rfl, ho⟩ := h3.ex
  have : keysVL rest ++ keysVL ((curD b c).map V.d) = [] := by rw [hk]; simp [curD]
  rw [this]
  exact hK y c' n hs' h1 h2 h6 hln h7 h8 ho
theorem idsLL_mapW (l : List Int) : idsLL (l.map cW) = [] := by
  induction l with
  | nil => rfl
  | cons x r ih => simp only [List.map_cons, idsLL, ih, cW]; rfl
theorem tkLL_mapW (l : List Int) : tkLL (l.map cW) = true := by
  induction l with
  | nil => rfl
  | cons x r ih => simp only [List.map_cons, tkLL, ih, cW]; simp [tkL, D.tk]
section
attribute [local simp] pS dSl cP cI cW
theorem w_spec_l27Z (b : Sl Int) (c : Nat × Int) (ar : Int) (hb : b.xs.length ≤ 1048576) (hc : curO b c) (har : ar ≤ 1000) : VX Try.prog 24 [] [.ptr 1000 0 0, .d (.int .i64 ar)] (some ((curD b c).map V.d)) (fun n r cs _ => CntC 25 3 b n r cs) := by
  refine VX.of E s24 (by kernel_rfl) Try.func24 (by rfl) (by kernel_rfl) (by simp [Try.f24]) (by simp [Try.f24]) s24_ok ?_ ?_ fun B hB => ?_
  · simp
  · rintro cs h
    cases h
    simp [curD]
  simp [Try.f24, s24_5, s24_5, curD]
  refine call_rel c E45 (w_spec_l5Rel b c ar 6 3 hb hc har (by omega) (by omega)) (by simp) (by simp [curD]) (by simp) (by simp) fun y c1 n1 hs1 hn1 hm1 hy1 ly1 ky1 Gy1 o1 => ?_
  have hB1 : B ≤ n1 := hn1
  simp [curD, cReln, cS, dSl, s24_5, ]
  refine call_some ((e_spec_CountedFromRelation (plReln y)).er (As := [.agg ((cReln y).map V.d)]) (by simp [cReln, cS, dSl, eReln, plReln, plS, plI, erLL_map (er_cS er_cI)])) (by simp [cReln, cS, dSl]) (by simp [cReln, cS, dSl]) fun n2 hs2 r2 hn2 hm2 hp2 hr2 => ?_
  obtain ⟨⟨za, ⟨rid, rT, rx⟩, ⟨zid, zT, zx⟩⟩, rfl, pz, kz, Tz, Gz⟩ := hp2
  simp [cCnt, curD, cS, dSl, s24_5, ]
  have hlz : rx.length ≤ 1000 ∧ zx.length = rx.length := by
    replace ly1 := ly1.1
    have e1 := congrArg (fun z : PCnt => z.rows.length) pz
    have e2 := congrArg (fun z : PCnt => z.cs.length) pz
    simp only [cntOf, plCnt] at e1 e2
    split at e1 <;> simp_all [plS, plReln]
  have hza : za ≤ 1000 := by
    have e1 : za = (cntOf (plReln y)).ar := congrArg (fun z : PCnt => z.ar) pz
    rw [e1, cntOf]
    have h0 : (plReln y).ar ≤ 1000 := ly1.2
    by_cases hq : rowsOk (plReln y).ar (plReln y).rows = true
    · rw [if_pos hq]; exact h0
    · rw [if_neg hq]; exact (by decide : (0 : Int) ≤ 1000)
  have G0 := Gz.nd
  simp only [cCnt, idsL_app, idsL_cS] at G0
  refine loop_rule (X := Nat × (Nat × Int) × List Int) (fun p => p.1 ≤ zx.length ∧ p.2.2.length = zx.length ∧ curO b p.2.1) (fun p => [(0, .ptr 1000 0 0), (4, .ptr 4 0 0), (5, .ptr 5 0 0), (7, .d (.int .i64 p.1))]) (fun p => [(1000, some (.box ((curD b p.2.1).map V.d))), (4, some (.box [.d (.int .i64 0), .d (.sl none none []), .d (.sl none none [])])), (5, some (.box [.d (.int .i64 za), .d (dSl (cS cI) ⟨rid, rT, rx⟩), .d (.sl zid zT (p.2.2.map cI))]))]) (fun p => zx.length - p.1) (0, c1, zx) ⟨by simp, rfl, o1⟩ (by simp) (by simp [curD, cS, dSl]) ?_
  rintro ⟨i, c2, l⟩ hs t m ⟨hi, hl, o2⟩ hh
  simp only at hi hl o2
  by_cases hlt : i < zx.length
  · obtain ⟨g, hg, T', hT⟩ := (Sl.wh.id (s := (⟨zid, zT, zx⟩ : Sl Int)) Gz.wh.2.2.1 hlt)
    simp only at hg hT
    subst hg hT
    have hwi := wr1 (i := i) (by have := kz.2.2.1; simp only [maxLen] at this; omega)
    have hgB : B ≤ g := by
      have := Gz.lo g (by simp only [cCnt, idsL_app, idsL_cS, List.mem_append]; exact .inr (mem_slids (s := (⟨some g, some T', zx⟩ : Sl Int)) rfl))
      simp at hn2
      omega
    have hgr : g ∉ (dSl (cS cI) (⟨rid, rT, rx⟩ : Sl Ints)).ids := fun h => nd_disj G0 g (List.mem_append_right _ h) (mem_slids (s := (⟨some g, some T', zx⟩ : Sl Int)) rfl)
    refine anyQ fun Q => ?_
    simp [hlt, hl, curD, s24_5, ]
    repeat' apply And.intro
    all_goals
      refine call_curK c2 E43 (w_spec_l1PickInt b c2 [1, 1, 2, -1, 3, -2] hb o2 (by simp) (by simp)) (by simp) (by simp [curD]) (by simp) fun r3 c3 hs3 hh3 hq3 hl3 o3 => ?_
      obtain ⟨x, rfl, hx⟩ := hq3
      have e1 : (List.map cI l).set i [D.int .i64 x] = List.map cI (l.set i x) := by rw [← set_map]; rfl
      have e2 : ∀ d, reV (one g d) (.d (dSl (cS cI) (⟨rid, rT, rx⟩ : Sl Ints))) = .d (dSl (cS cI) ⟨rid, rT, rx⟩) := fun d => reV_id _ fun j hj => one_out fun e => hgr (e ▸ hj)
      simp [hlt, hl, hwi, curD, s24_5, ]
      refine ⟨hgB, back (i + 1, c3, l.set i x) ⟨by simp only; omega, by simp [hl], o3⟩ (by simp only; omega) rfl (by simp <;> omega) (by simp) ?_⟩
      simp [-List.map_set, e1, curD, dSl]
      exact ⟨reV_id _ (fun j hj => one_out fun e => by
        have := hB j (.inr (by simpa [curD] using hj))
        omega) (by simp [tkLL_mapW]), e2 _⟩
  · simp [hlt, hl, curD, vendX, s24_5, ]
    intro γ hs' h1 hg
    clear hg
    have e0 : ∀ l : List Int, (dSl cI (⟨zid, zT, l⟩ : Sl Int)).ids = zid.toList := fun l => by simp [dSl, D.ids]
    have e : idsL (cCnt ⟨za, ⟨rid, rT, rx⟩, ⟨zid, zT, l⟩⟩) = idsL (cCnt ⟨za, ⟨rid, rT, rx⟩, ⟨zid, zT, zx⟩⟩) := by simp only [cCnt, idsL_app, idsL_cS, e0]
    have hBn : B ≤ n2 := by simp at hn2; omega
    exact ⟨⟨c2, ⟨za, ⟨rid, rT, rx⟩, ⟨zid, zT, l⟩⟩, by simp [cCnt, cS, dSl], ⟨hlz.1, by rw [← hlz.2]; exact hl, hza⟩, ⟨trivial, kz.2.1, ⟨by rw [hl]; exact kz.2.2.1, fun _ _ => trivial⟩⟩, Tz, ⟨by rw [e]; exact Gz.nd, fun g hg => by rw [e] at hg; have := Gz.lo g hg; omega, Gz.wh.1, Gz.wh.2.1, Gz.wh.2.2.1.of (by simp [hl]), fun _ _ => trivial⟩, by simp [curD], o2⟩⟩
end

end Go.Proofs.Ytimjeofhffkajaa

namespace Go.Proofs.Ytimjeofhffkajaa
open Go.Vs Go.Proofs Go
set_option maxRecDepth 100000
set_option maxHeartbeats 1000000

/-- what the draw of a counted relation leaves that need not be right -/
structure AnyC (b : Sl Int) (r : V) (cs : List V) : Prop where
  ex : ∃ (c' : Nat × Int) (z : Cnt), r = .agg ((cCnt z).map V.d) ∧ (z.rows.xs.length ≤ 2000 ∧ z.cs.xs.length ≤ 2000 ∧ z.ar ≤ 1000) ∧ okCnt z ∧ cs = (curD b c').map V.d ∧ curO b c'
/-- a call that is handed the cursor and hands back a new counted relation -/
theorem call_cnt {P : Program} {t1 t2 : Nat} {E : Md} {args : List Operand} {f : FuncId} {rest As : List V} {k : Nat} {dst : Option Tmp} {K : St → Prop} {σ : St} {b : Sl Int} (c : Nat × Int) (hE : E f = true)
    (hc : VX P f [] (.ptr 1000 0 0 :: As) (some ((curD b c).map V.d)) (fun n r cs _ => CntC t1 t2 b n r cs)) (hvs : args.map σ.ev = .ptr k 0 0 :: rest) (hm : σ.m k = some (.box ((curD b c).map V.d)))
    (hr : rpL σ.m rest = some As) (hk : keysVL rest = [])
    (hK : ∀ (z : Cnt) c' n hs', σ.hs ≤ n → n ≤ hs' → z.rows.xs.length ≤ 1000 → (z.cs.xs.length = z.rows.xs.length ∧ z.ar ≤ 1000) → okCnt z → ((∀ g, z.rows.id = some g → z.rows.T = some (t1, 1)) ∧ ∀ g, z.cs.id = some g → z.cs.T = some (t2, 1)) → Good (cCnt z) (whCnt z) n → curO b c' → K ({ σ with hs := hs', m := upd σ.m k (some (.box ((curD b c').map V.d))) }.put dst (.agg ((cCnt z).map V.d)))) : vcallA P E f args (.ptr k 0 0 :: rest) dst K σ := by
  refine call_xt hE hvs hm hr (by simp [curD, dSl]) hc fun r cs' ws n hs' h1 h2 h3 h4 h5 => ?_
  obtain ⟨c', y, rfl, hln, h7, hT, h8, rfl, ho⟩ := h3.ex
  have : keysVL rest ++ keysVL ((curD b c).map V.d) = [] := by rw [hk]; simp [curD]
  rw [this]
  exact hK y c' n hs' h1 h2 hln.1 hln.2 h7 hT h8 ho
/-- as 'call_cnt', of a relation that need not be right -/
theorem call_any {P : Program} {E : Md} {args : List Operand} {f : FuncId} {rest As : List V} {k : Nat} {dst : Option Tmp} {K : St → Prop} {σ : St} {b : Sl Int} (c : Nat × Int) (hE : E f = true)
    (hc : VX P f [] (.ptr 1000 0 0 :: As) (some ((curD b c).map V.d)) (fun _ r cs _ => AnyC b r cs)) (hvs : args.map σ.ev = .ptr k 0 0 :: rest) (hm : σ.m k = some (.box ((curD b c).map V.d)))
    (hr : rpL σ.m rest = some As) (hk : keysVL rest = [])
    (hK : ∀ (z : Cnt) c' hs', σ.hs ≤ hs' → z.rows.xs.length ≤ 2000 → (z.cs.xs.length ≤ 2000 ∧ z.ar ≤ 1000) → okCnt z → curO b c' → K ({ σ with hs := hs', m := upd σ.m k (some (.box ((curD b c').map V.d))) }.put dst (.agg ((cCnt z).map V.d)))) : vcallA P E f args (.ptr k 0 0 :: rest) dst K σ := by
  refine call_xt hE hvs hm hr (by simp [curD, dSl]) hc fun r cs' ws n hs' h1 h2 h3 h4 h5 => ?_
  obtain ⟨c', y, rfl, hln, h7, rfl, ho⟩ := h3.ex
  have : keysVL rest ++ keysVL ((curD b c).map V.d) = [] := by rw [hk]; simp [curD]
  rw [this]
  exact hK y c' hs' (Nat.le_trans h1 h2) hln.1 hln.2 h7 ho
section
attribute [local simp] pS dSl cP cI cW
theorem w_spec_l27Any (b : Sl Int) (c : Nat × Int) (hb : b.xs.length ≤ 1048576) (hc : curO b c) : VX Try.prog 22 [] [.ptr 1000 0 0] (some ((curD b c).map V.d)) (fun _ r cs _ => AnyC b r cs) := by
  refine VX.of E s22 (by kernel_rfl) Try.func22 (by rfl) (by kernel_rfl) (by simp [Try.f22]) (by simp [Try.f22]) s22_ok ?_ ?_ fun B hB => ?_
  · simp
  · rintro cs h
    cases h
    simp [curD]
  simp [Try.f22, s22_6, s22_10, s22_6, s22_10, curD]
  refine call_cur c E38 (w_spec_l1Below b c 4 hb hc (by omega)) (by simp) (by simp [curD]) (by simp) (by simp) fun r0 c0 hs0 hh0 hq0 hl0 o0 => ?_
  obtain ⟨x, rfl, x0, x1, _⟩ := hq0
  have x1 := x1 (by omega)
  simp [s22_6, s22_10, curD]
  refine call_cnt c0 E24 (w_spec_l27Z b c0 x hb o0 (by omega)) (by simp) (by simp [curD]) (by simp) (by simp) fun z c1 n1 hs1 hn1 hm1 lz1 lz2 kz Tz Gz o1 => ?_
  obtain ⟨za, ⟨rid, rT, rx⟩, ⟨zid, zT, zx⟩⟩ := z
  have hB1 : B ≤ n1 := by simp at hn1 hh0; omega
  obtain ⟨lz2, lz3⟩ := lz2
  simp only at lz1 lz2 lz3
  have G0 := Gz.nd
  simp only [cCnt, idsL_app, idsL_cS] at G0
  refine forgetG [(0, .ptr 1000 0 0), (2, .ptr 2 0 0), (7, .agg ((cCnt ⟨za, ⟨rid, rT, rx⟩, ⟨zid, zT, zx⟩⟩).map V.d))] [(1000, some (.box ((curD b c1).map V.d))), (2, some (.box [.d (.int .i64 0), .d (.sl none none []), .d (.sl none none [])]))] (by simp) (by simp [curD]) fun t m => ?_
  by_cases hrx : rx = []
  · subst hrx
    simp [cCnt, curD, cS, dSl, vendX, s22_6, s22_10, ]
    intro γ hs' h1 hg
    clear hg
    exact ⟨⟨c1, ⟨za, ⟨rid, rT, []⟩, ⟨zid, zT, zx⟩⟩, by simp [cCnt, cS, dSl], ⟨by simp, by simp only; omega, by simp only; omega⟩, kz, by simp [curD], o1⟩⟩
  have hrl : 0 < rx.length := List.length_pos_iff.2 hrx
  have hzl : 0 < zx.length := by omega
  obtain ⟨g, hg, _⟩ := (Sl.wh.id (s := (⟨zid, zT, zx⟩ : Sl Int)) Gz.wh.2.2.1 hzl)
  obtain ⟨gr, hgr1, _⟩ := (Sl.wh.id (s := (⟨rid, rT, rx⟩ : Sl Ints)) Gz.wh.2.1.1 hrl)
  simp only at hg hgr1
  subst hg hgr1
  obtain ⟨T1, T2⟩ := Tz
  obtain rfl : rT = some (25, 1) := T1 gr rfl
  obtain rfl : zT = some (3, 1) := T2 g rfl
  simp [cCnt, curD, cS, dSl, hrx, s22_6, s22_10, ]
  refine call_cur c1 E38 (w_spec_l1Below b c1 12 hb o1 (by omega)) (by simp) (by simp [curD]) (by simp) (by simp) fun r2 c2 hs2 hh2 hq2 hl2 o2 => ?_
  obtain ⟨u, rfl, u0, u1, _⟩ := hq2
  have hB2 : n1 ≤ hs2 := by simp at hh2; omega
  refine forgetG [(0, .ptr 1000 0 0), (2, .ptr 2 0 0), (3, .ptr 3 0 0), (14, .d (.int .i64 u))] [(1000, some (.box ((curD b c2).map V.d))), (2, some (.box [.d (.int .i64 0), .d (.sl none none []), .d (.sl none none [])])), (3, some (.box ((cCnt ⟨za, ⟨some gr, some (25, 1), rx⟩, ⟨some g, some (3, 1), zx⟩⟩).map V.d)))] (by simp) (by simp [curD, cCnt, cS, dSl]) fun t m => ?_
  by_cases e0 : u = 0
  · subst e0
    have hgB : B ≤ g := by
      have := Gz.lo g (by simp only [cCnt, idsL_app, idsL_cS, List.mem_append]; exact .inr (mem_slids (s := (⟨some g, some (3, 1), zx⟩ : Sl Int)) rfl))
      omega
    have hgr : g ∉ (dSl (cS cI) (⟨some gr, some (25, 1), rx⟩ : Sl Ints)).ids := fun h => nd_disj G0 g (List.mem_append_right _ h) (mem_slids (s := (⟨some g, some (3, 1), zx⟩ : Sl Int)) rfl)
    simp [cCnt, curD, cS, dSl, s22_6, s22_10, ]
    repeat' apply And.intro
    all_goals
      refine call_curK c2 E43 (w_spec_l1PickInt b c2 [0, 1000000, 1000001] hb o2 (by simp) (by simp)) (by simp) (by simp [curD]) (by simp) fun r3 c3 hs3 hh3 hq3 hl3 o3 => ?_
      obtain ⟨x, rfl, hx⟩ := hq3
      have e1 : (List.map cI zx).set 0 [D.int .i64 x] = List.map cI (zx.set 0 x) := by rw [← set_map]; rfl
      have e2 : ∀ d, reV (one g d) (.d (dSl (cS cI) (⟨some gr, some (25, 1), rx⟩ : Sl Ints))) = .d (dSl (cS cI) ⟨some gr, some (25, 1), rx⟩) := fun d => reV_id _ fun j hj => one_out fun e => hgr (e ▸ hj)
      have e3 : ∀ d, reV (one g d) (.d (.sl b.id b.T (b.xs.map cW))) = .d (.sl b.id b.T (b.xs.map cW)) := fun d => reV_id _ (fun j hj => one_out fun e => by
        have := hB j (.inr (by simpa [curD] using hj))
        omega) (by simp [tkLL_mapW])
      simp only [dSl] at e2
      simp [cCnt, curD, cS, dSl, hzl, s22_6, s22_10, ]
      simp [-List.map_set, cS, dSl, vendX, e1, e2, e3]
      refine ⟨hgB, fun γ hs' h1 hg => ?_⟩
      clear hg
      exact ⟨⟨c3, ⟨za, ⟨some gr, some (25, 1), rx⟩, ⟨some g, some (3, 1), zx.set 0 x⟩⟩, by simp [cCnt, cS, dSl], ⟨by simp only; omega, by simp; omega, by simp only; omega⟩, ⟨trivial, kz.2.1, ⟨by simpa using kz.2.2.1, fun _ _ => trivial⟩⟩, by simp [curD], o3⟩⟩
  by_cases e1 : u = 1
  · subst e1
    simp [cCnt, curD, cS, dSl, vendX, s22_6, s22_10, ]
    refine ⟨by omega, fun γ hs' h1 hg => ?_⟩
    clear hg
    exact ⟨⟨c2, ⟨za, ⟨some gr, some (25, 1), rx⟩, ⟨some g, none, zx.tail.take (zx.length - 1)⟩⟩, by simp [cCnt, cS, dSl, List.map_take, List.map_tail], ⟨by simp only; omega, by simp; omega, by simp only; omega⟩, ⟨trivial, kz.2.1, ⟨by have := kz.2.2.1; simp only [maxLen] at this ⊢; simp; omega, fun _ _ => trivial⟩⟩, by simp [curD], o2⟩⟩
  by_cases e2 : u = 2
  · subst e2
    obtain ⟨r0, rx', rfl⟩ := List.exists_cons_of_ne_nil hrx
    have hgB : B ≤ g := by
      have := Gz.lo g (by simp only [cCnt, idsL_app, idsL_cS, List.mem_append]; exact .inr (mem_slids (s := (⟨some g, some (3, 1), zx⟩ : Sl Int)) rfl))
      omega
    have hrB : B ≤ gr := by
      have := Gz.lo gr (by simp only [cCnt, idsL_app, idsL_cS, List.mem_append]; exact .inl (.inr (mem_slids (s := (⟨some gr, some (25, 1), r0 :: rx'⟩ : Sl Ints)) rfl)))
      omega
    have hgr : g ∉ (dSl (cS cI) (⟨some gr, some (25, 1), r0 :: rx'⟩ : Sl Ints)).ids := fun h => nd_disj G0 g (List.mem_append_right _ h) (mem_slids (s := (⟨some g, some (3, 1), zx⟩ : Sl Int)) rfl)
    have hgg : gr ≠ g := fun h => hgr (h ▸ mem_slids (s := (⟨some gr, some (25, 1), r0 :: rx'⟩ : Sl Ints)) rfl)
    have hrr : gr ∉ idsLL ((r0 :: rx').map (cS cI)) := by
      have := (List.nodup_append.1 (List.nodup_append.1 G0).1).2.1
      simp only [dSl, D.ids, Option.toList] at this
      exact (List.nodup_cons.1 this).1
    have hr0 : gr ∉ (D.sl r0.id r0.T (r0.xs.map cI)).ids := fun h => hrr (by simp only [List.map_cons, idsLL, idsL_cS, List.mem_append]; exact .inl h)
    have kr : ∀ i, i ≠ gr → kphi (some gr) i = none := fun i hi => by simp only [kphi]; rw [if_neg (by simpa using Ne.symm hi)]
    have kz' : ∀ i, i ≠ g → kphi (some g) i = none := fun i hi => by simp only [kphi]; rw [if_neg (by simpa using Ne.symm hi)]
    have hbk : ∀ k, B ≤ k → ∀ j ∈ (D.sl b.id b.T (b.xs.map cW)).ids, j ≠ k := fun k hk j hj e => by
      have := hB j (.inr (by simpa [curD] using hj))
      omega
    have c1' : reV (kphi (some gr)) (.d (.sl b.id b.T (b.xs.map cW))) = .d (.sl b.id b.T (b.xs.map cW)) := reV_id _ (fun j hj => kr j (hbk gr hrB j hj)) (by simp [tkLL_mapW])
    have c2' : reV (kphi (some g)) (.d (.sl b.id b.T (b.xs.map cW))) = .d (.sl b.id b.T (b.xs.map cW)) := reV_id _ (fun j hj => kz' j (hbk g hgB j hj)) (by simp [tkLL_mapW])
    have hgr' : g ∉ idsLL ((r0 :: rx').map (cS cI)) := fun h => hgr (by simp only [dSl, D.ids]; exact List.mem_append_right _ h)
    have hap : ∀ k, k ∉ idsLL ((r0 :: rx').map (cS cI)) → k ∉ idsLL ((r0 :: rx' ++ [r0]).map (cS cI)) := fun k hk h => hk (by
      rw [List.map_append, idsLL_append] at h
      rcases List.mem_append.1 h with h | h
      · exact h
      · simp only [List.map_cons, List.map_nil, idsLL, List.append_nil] at h ⊢
        exact List.mem_append_left _ h)
    have f0 : gr ∉ idsLL [[D.sl r0.id r0.T (r0.xs.map cI)]] := fun h => hrr (by
      simp only [List.map_cons, idsLL, List.append_nil] at h ⊢
      exact List.mem_append_left _ h)
    have f1 : gr ∉ idsLL ([D.sl r0.id r0.T (r0.xs.map cI)] :: rx'.map (cS cI)) := hrr
    have f2 : g ∉ idsLL ([D.sl r0.id r0.T (r0.xs.map cI)] :: rx'.map (cS cI)) := hgr'
    have eR : reLL (kphi (some gr)) ([D.sl r0.id r0.T (r0.xs.map cI)] :: (rx'.map (cS cI) ++ [[D.sl r0.id r0.T (r0.xs.map cI)]])) = some ([D.sl r0.id r0.T (r0.xs.map cI)] :: (rx'.map (cS cI) ++ [[D.sl r0.id r0.T (r0.xs.map cI)]])) := by
      have e : [D.sl r0.id r0.T (r0.xs.map cI)] :: (rx'.map (cS cI) ++ [[D.sl r0.id r0.T (r0.xs.map cI)]]) = (r0 :: rx' ++ [r0]).map (cS cI) := by simp [cS, dSl]
      rw [e]
      exact reLL_id _ (ht := tkLL_map _ (by simp)) fun k hk => kr k fun e => hap gr hrr (e ▸ hk)
    have eG : reLL (kphi (some g)) ([D.sl r0.id r0.T (r0.xs.map cI)] :: (rx'.map (cS cI) ++ [[D.sl r0.id r0.T (r0.xs.map cI)]])) = some ([D.sl r0.id r0.T (r0.xs.map cI)] :: (rx'.map (cS cI) ++ [[D.sl r0.id r0.T (r0.xs.map cI)]])) := by
      have e : [D.sl r0.id r0.T (r0.xs.map cI)] :: (rx'.map (cS cI) ++ [[D.sl r0.id r0.T (r0.xs.map cI)]]) = (r0 :: rx' ++ [r0]).map (cS cI) := by simp [cS, dSl]
      rw [e]
      exact reLL_id _ (ht := tkLL_map _ (by simp)) fun k hk => kz' k fun e => hap g hgr' (e ▸ hk)
    have eZ : reV (kphi (some gr)) (.d (.sl (some g) (some (3, 1)) (zx.map cI))) = .d (.sl (some g) (some (3, 1)) (zx.map cI)) := reV_id _ (fun j hj => kr j fun e => by
      rcases mem_sl_ids.1 (show j ∈ (dSl cI (⟨some g, some (3, 1), zx⟩ : Sl Int)).ids from hj) with h | h
      · have h' : some g = some j := h
        cases h'
        exact hgg e.symm
      · simp at h)
    have L1 : LenOk 24 (rx'.length + 1 + 1) := ⟨by simp at lz1; omega, by simp at lz1; simp only [maxLen]; omega⟩
    have L2 : LenOk 8 (zx.length + 1) := ⟨by simp at lz1 lz2; omega, by simp at lz1 lz2; simp only [maxLen]; omega⟩
    simp [cCnt, curD, cS, dSl, St.kill, hrB, hgB, f0, f1, L1, L2, eR, eZ, eG, c1', c2', s22_6, s22_10, ]
    refine ⟨by simp [idsLL, idsL, D.ids], ?_⟩
    simp [vendX]
    intro γ hs' h1 hg
    clear hg
    exact ⟨⟨c2, ⟨za, ⟨γ 38, some (25, 1), r0 :: rx' ++ [r0]⟩, ⟨γ 43, some (3, 1), zx ++ [1]⟩⟩, by simp [cCnt, cS, dSl, List.take_of_length_le], ⟨by simp at lz1 ⊢; omega, by simp at lz1 lz2 ⊢; omega, by simp only; omega⟩, ⟨trivial, ⟨by simp at lz1; simp only [maxLen, List.length_append, List.length_cons, List.length_nil]; omega, fun x hx => by
      rcases List.mem_append.1 hx with hx | hx
      · exact kz.2.1.2 x hx
      · rw [List.mem_singleton.1 hx]; exact kz.2.1.2 r0 (by simp)⟩, ⟨by simp at lz1 lz2; simp only [maxLen, List.length_append, List.length_cons, List.length_nil]; omega, fun _ _ => trivial⟩⟩, by simp [curD], o2⟩⟩
  simp [cCnt, curD, cS, dSl, vendX, e0, e1, e2, s22_6, s22_10, ]
  intro γ hs' h1 hg
  clear hg
  exact ⟨⟨c2, ⟨za, ⟨some gr, some (25, 1), rx⟩, ⟨some g, some (3, 1), zx⟩⟩, by simp [cCnt, cS, dSl], ⟨by simp only; omega, by simp only; omega, by simp only; omega⟩, kz, by simp [curD], o2⟩⟩
end

end Go.Proofs.Ytimjeofhffkajaa

namespace Go.Proofs.Ytimjeofhffkajaa
open Go.Vs Go.Proofs Go
set_option maxRecDepth 100000
set_option maxHeartbeats 1000000

section
attribute [local simp] pS dSl cP cI cW
theorem rdL_dSlW (b : Sl Int) : rdL (fun _ => none) (fun _ => none) [V.d (dSl cW b)] = some [V.d (dSl cW b)] := rfl
theorem w_spec_DrawAddCounted (b : Sl Int) (hb : b.xs.length ≤ 1048576) : VC Try.prog 6 [.d (dSl cW b)] (fun _ v => ∃ x y : Cnt, v = .tup [.agg ((cCnt x).map V.d), .agg ((cCnt y).map V.d)] ∧ okCnt x ∧ okCnt y ∧ (x.rows.xs.length ≤ 2000 ∧ x.cs.xs.length ≤ 2000) ∧ y.rows.xs.length ≤ 2000 ∧ y.cs.xs.length ≤ 2000) := by
  refine VC.of E s6 (by kernel_rfl) Try.func6 (by rfl) (by kernel_rfl) (by simp [Try.f6]) (by simp [Try.f6]) s6_ok fun B => ?_
  simp [Try.f6, s6_4, s6_5, s6_4, s6_5, ]
  refine call_nt (w_spec_l1New b hb) (by simp) (by simp) fun ds n0 hs0 hn0 hm0 hp0 hl0 hi0 => ?_
  obtain ⟨c0, rfl, o0⟩ := hp0
  simp [curD, s6_4, s6_5, ]
  refine call_any c0 E22 (w_spec_l27Any b c0 hb o0) (by simp) (by simp [curD]) (by simp) (by simp) fun x c1 hs1 hh1 lx1 lx2 kx o1 => ?_
  obtain ⟨xa, ⟨rid, rT, rx⟩, ⟨zid, zT, zx⟩⟩ := x
  simp [cCnt, curD, cS, dSl, s6_4, s6_5, ]
  refine call_cur c1 E23 (w_spec_l1Once b c1 6 hb o1 (by omega)) (by simp) (by simp [curD]) (by simp) (by simp) fun r2 c2 hs2 hh2 hq2 hl2 o2 => ?_
  obtain ⟨u, rfl⟩ := hq2
  cases u
  · simp [cCnt, curD, cS, dSl, s6_4, s6_5, ]
    repeat' apply And.intro
    all_goals
      refine call_cnt c2 E24 (w_spec_l27Z b c2 (if 0 < if xa < 5 then xa else 5 then if xa < 5 then xa else 5 else 0) hb o2 (by (repeat' split) <;> omega)) (by simp) (by simp [curD]) (by simp) (by simp) fun y c3 n3 hs3 hn3 hm3 ly1 ly2 ky Ty Gy o3 => ?_
      obtain ⟨ya, ⟨yid, yT, yx⟩, ⟨wid, wT, wx⟩⟩ := y
      simp [cCnt, curD, cS, dSl, s6_4, s6_5, ]
      exact ⟨⟨xa, ⟨rid, rT, rx⟩, ⟨zid, zT, zx⟩⟩, ⟨ya, ⟨yid, yT, yx⟩, ⟨wid, wT, wx⟩⟩, by simp, kx, ky, ⟨lx1, lx2.1⟩, by simp only at ly1 ly2 ⊢; omega, by simp only at ly1 ly2 ⊢; omega⟩
  · simp [cCnt, curD, cS, dSl, s6_4, s6_5, ]
    repeat' apply And.intro
    all_goals
      refine call_any c2 E22 (w_spec_l27Any b c2 hb o2) (by simp) (by simp [curD]) (by simp) (by simp) fun y c3 hs3 hh3 ly1 ly2 ky o3 => ?_
      obtain ⟨ya, ⟨yid, yT, yx⟩, ⟨wid, wT, wx⟩⟩ := y
      simp [cCnt, curD, cS, dSl, s6_4, s6_5, ]
      exact ⟨⟨xa, ⟨rid, rT, rx⟩, ⟨zid, zT, zx⟩⟩, ⟨ya, ⟨yid, yT, yx⟩, ⟨wid, wT, wx⟩⟩, by simp, kx, ky, ⟨lx1, lx2.1⟩, by simp only at ly1 ly2 ⊢; omega, by simp only at ly1 ly2 ⊢; omega⟩
end

end Go.Proofs.Ytimjeofhffkajaa

namespace Go.Proofs.Ytimjeofhffkajaa
open Go.Vs Go.Proofs Go
set_option maxRecDepth 100000
set_option maxHeartbeats 1000000

theorem w_impl_copyInts (a : Ints) (ha : okS okI a) (hb : a.xs.length ≤ 4294967296) :
   VC Try.prog 46 [.d (dSl cI a)] (fun n r => ∃ y : Sl Int, r = .d (dSl cI y) ∧ plS plI y = plS plI a ∧ okS okI y ∧ Good (cS cI y) (whS whI y) n) := by
  refine VC.of E s46 (by kernel_rfl) Try.func46 (by rfl) (by kernel_rfl) (by simp [Try.f46]) (by simp [Try.f46]) s46_ok fun B => ?_
  have hL : LenOk 8 a.xs.length := ⟨by omega, by simp only [maxLen]; omega⟩
  simp [Try.f46, dSl, hL, cI]
  intro γ hs' h1 hg
  obtain ⟨q1, q2⟩ := gam_at hg (k := 3) (T := 3) (sz := 1) (es := a.xs.map cI) (by simp [cI])
  have q3 := gam_row hg (k := 3) (T := 3) (sz := 1) (es := a.xs.map cI) (by simp [cI])
  clear hg
  refine ⟨⟨γ 3, some (3, 1), a.xs⟩, ⟨⟨rfl, rfl, by simp [List.take_of_length_le]⟩, rfl, ha, good_row (fun g hg => (q1 g hg).1) (by simpa using q2) q3 ⟨by simp, by simp⟩ (by simp [whI])⟩⟩
theorem w_impl_copyRows (a : Sl Ints) (ha : okS (okS okI) a) (hb : a.xs.length ≤ 4294967296) (hb2 : ∀ r ∈ a.xs, r.xs.length ≤ 4294967296) :
   VC Try.prog 42 [.d (dSl (cS cI) a)] (fun n r => ∃ y : Sl Ints, r = .d (dSl (cS cI) y) ∧ plS (plS plI) y = plS (plS plI) a ∧ okS (okS okI) y ∧ Good (cS (cS cI) y) (whS (whS whI) y) n) := by
  refine VC.of E s42 (by kernel_rfl) Try.func42 (by rfl) (by kernel_rfl) (by simp [Try.f42]) (by simp [Try.f42]) s42_ok fun B => ?_
  simp [Try.f42, dSl]
  refine loop_ruleL (X := Nat × List (Sl Int)) (fun p h => p.1 ≤ a.xs.length ∧ p.2.length = p.1 ∧ p.2.map (plS plI) = (a.xs.map (plS plI)).take p.1 ∧ (∀ y ∈ p.2, okS okI y) ∧ GoodL (cS cI) (whS whI) B h p.2)
    (fun p => [(3, .own 16 0 p.1), (6, .d (.sl a.id a.T (a.xs.map (cS cI)))), (7, .d (.int .i64 a.xs.length)), (8, .d (.int .i64 p.1))]) (fun p => [(16, some (.row 25 1 (p.2.map (cS cI))))]) (fun p => a.xs.length - p.1) ?_ ?_
  · refine (lead_slot 3 16 25 1 (by omega) (by omega) (by simp)).bind ?_
    rintro _ rfl
    exact Lead.of ⟨(0, []), ⟨by simp, rfl, by simp, by simp, GoodL.nil⟩, rfl, rfl, Nat.le_refl _, by simp, by simp⟩
  · rintro ⟨i, ys⟩ hs t m ⟨hi, hyl, hpl, hok, hgd⟩ hh
    simp only at hi hyl hpl hok hgd
    by_cases hlt : i < a.xs.length
    · have hwi := wr1 (i := i) (by omega)
      have hmem : a.xs[i] ∈ a.xs := List.getElem_mem _
      have hL : LenOk 24 (i + 1) := ⟨by omega, by simp only [maxLen]; omega⟩
      simp [cS, hlt]
      refine call_some (w_impl_copyInts a.xs[i] (ha.2 _ hmem) (hb2 _ hmem)) rfl (by simp) fun n hs' r hn hn' hp hr => ?_
      obtain ⟨y, rfl, hy1, hy2, hy3⟩ := hp
      simp at hn
      have hr' : ∀ g ∈ idsL (cS cI y), g < hs' := fun g hg => hr g (by rw [idsL_cS] at hg; exact hg)
      simp [cS, dSl, hyl, hL, hwi]
      refine back2 (i + 1, ys ++ [y]) ⟨by omega, by simp [hyl], ?_, ?_, GoodL.snoc hgd (by omega) hn' hy3 hr'⟩ (by simp; omega) rfl (by simp <;> omega) (by simp) (by simp [cS, dSl])
      · simp only [List.map_append, hpl, List.map_cons, List.map_nil, hy1]
        rw [List.take_succ_eq_append_getElem (by simpa using hlt)]; simp
      · intro y' hy'
        rcases List.mem_append.1 hy' with h | h
        · exact hok y' h
        · rw [List.mem_singleton.1 h]; exact hy2
    · have hn : i = a.xs.length := by omega
      subst hn
      simp [hyl]
      intro γ hs' h1 hg
      obtain ⟨q1, q2⟩ := gam_at hg (k := 16) (T := 25) (sz := 1) (es := ys.map (cS cI)) (by simp)
      have q3 := gam_row hg (k := 16) (T := 25) (sz := 1) (es := ys.map (cS cI)) (by simp)
      clear hg
      refine ⟨⟨γ 16, some (25, 1), ys⟩, ⟨rfl, rfl, by simp [List.take_of_length_le, hyl]⟩, by rw [List.take_of_length_le (by simp)] at hpl; exact hpl, ⟨by simp only [maxLen]; show ys.length ≤ _; omega, hok⟩, good_row (fun g hg => (q1 g hg).1) (by simpa using q2) q3 ⟨hgd.nd, hgd.lo⟩ hgd.wh⟩
theorem w_impl_copyCounted (a : Cnt) (ha : okCnt a) (hb : a.rows.xs.length ≤ 4294967296) (hb2 : ∀ r ∈ a.rows.xs, r.xs.length ≤ 4294967296) (hb3 : a.cs.xs.length ≤ 4294967296) :
   VC Try.prog 25 [.agg ((cCnt a).map V.d)] (fun n r => ∃ y : Cnt, r = .agg ((cCnt y).map V.d) ∧ plCnt y = plCnt a ∧ okCnt y ∧ Good (cCnt y) (whCnt y) n) := by
  refine VC.of E s25 (by kernel_rfl) Try.func25 (by rfl) (by kernel_rfl) (by simp [Try.f25]) (by simp [Try.f25]) s25_ok fun B => ?_
  simp [Try.f25, s25_1, cCnt, cS, cI]
  refine call_some (w_impl_copyRows a.rows ha.2.1 hb hb2) rfl (by simp) fun n1 hs1 r1 hn1 hm1 hp1 hr1 => ?_
  obtain ⟨y1, rfl, p1, k1, G1⟩ := hp1
  have u1 : ∀ g ∈ idsL (cS (cS cI) y1), g < hs1 := fun g hg => hr1 g (by rw [idsL_cS] at hg; exact hg)
  simp at hn1
  simp [cS, cI, s25_1, ]
  refine call_some (w_impl_copyInts a.cs ha.2.2 hb3) rfl (by simp) fun n2 hs2 r2 hn2 hm2 hp2 hr2 => ?_
  obtain ⟨y2, rfl, p2, k2, G2⟩ := hp2
  simp at hn2
  simp [cS, cI, s25_1, ]
  refine ⟨⟨a.ar, y1, y2⟩, by simp, by simp only [plCnt, p1, p2], ⟨trivial, k1, k2⟩, ?_⟩
  have K1 : Good (cI a.ar ++ cS (cS cI) y1) (whI a.ar ∧ whS (whS whI) y1) B := Good.app (good_I B a.ar) (G1.le (by omega)) (fun g h h' => by simp [cI, idsL, D.ids] at h)
  have K2 : Good (cI a.ar ++ cS (cS cI) y1 ++ cS cI y2) ((whI a.ar ∧ whS (whS whI) y1) ∧ whS whI y2) B := Good.app K1 (G2.le (by omega)) (fun g h h' => by
    have h2 := G2.lo g h'
    rw [idsL_app] at h
    rcases List.mem_append.1 h with h | h
    · simp [cI, idsL, D.ids] at h
    · have h1 := u1 g h; omega)
  exact ⟨K2.nd, K2.lo, K2.wh.1.1, K2.wh.1.2, K2.wh.2⟩

end Go.Proofs.Ytimjeofhffkajaa

namespace Go.Proofs.Ytimjeofhffkajaa
open Go.Vs Go.Proofs Go
set_option maxRecDepth 100000
set_option maxHeartbeats 1000000

section
attribute [local simp] plI_id plStr_id map_plI map_plStr pS cP cI cStr cU8 cB eReln eTab eDb eHist
theorem w_impl_sameInts (a b : List (Int)) : VC Try.prog 37 [.d (pS cI a), .d (pS cI b)] (fun _ r => r = .d (.bool (decide (a = b)))) := by
  refine VC.ofL EP s37 (by kernel_rfl) Try.func37 (by rfl) (by kernel_rfl) (by simp [Try.f37]) (by simp [Try.f37]) s37_ok fun B hl => ?_
  simp [pS, maxLen] at hl
  by_cases hle : a.length = b.length
  case neg => simp [Try.f37, s37_6, hle, eqt_len hle]
  simp [Try.f37, s37_6, hle]
  refine loop_rule (X := Nat) (EqTo a b) (fun i => [(0, .d (.pl (a.map (cI)))), (1, .d (.pl (b.map (cI)))), (12, .d (.int .i64 b.length)), (13, .d (.int .i64 i))]) (fun _ => []) (fun i => a.length - i) 0 .zero (by simp [hle]) (by simp) ?_
  intro i hs t m hi hh
  have hia := hi.le
  by_cases hlt : i < a.length
  · have hlb : i < b.length := by omega
    have hwi := wr1 (i := i) (by omega)
    simp [hlt, hlb, s37_6, ]
    by_cases he : a[i] = b[i]
    case neg => simp [he, eqt_bad hlt hlb he]
    simp [he, hwi]
    exact back (i + 1) ⟨by omega, eqt_step hi.eq hlt hlb he⟩ (by omega) rfl (by simp <;> omega) (by simp) (by simp)
  · have hd := eqt_done hi.eq (by omega) hle
    simp [show ¬ i < b.length by omega, hd]
theorem w_impl_sameRows (a b : List (List Int)) : VC Try.prog 36 [.d (pS (cP cI) a), .d (pS (cP cI) b)] (fun _ r => r = .d (.bool (decide (a = b)))) := by
  refine VC.ofL EP s36 (by kernel_rfl) Try.func36 (by rfl) (by kernel_rfl) (by simp [Try.f36]) (by simp [Try.f36]) s36_ok fun B hl => ?_
  simp [pS, maxLen] at hl
  by_cases hle : a.length = b.length
  case neg => simp [Try.f36, s36_6, hle, eqt_len hle]
  simp [Try.f36, s36_6, hle]
  refine loop_rule (X := Nat) (EqTo a b) (fun i => [(0, .d (.pl (a.map ((cP cI))))), (1, .d (.pl (b.map ((cP cI))))), (12, .d (.int .i64 b.length)), (13, .d (.int .i64 i))]) (fun _ => []) (fun i => a.length - i) 0 .zero (by simp [hle]) (by simp) ?_
  intro i hs t m hi hh
  have hia := hi.le
  by_cases hlt : i < a.length
  · have hlb : i < b.length := by omega
    have hwi := wr1 (i := i) (by omega)
    simp [hlt, hlb, s36_6, ]
    refine call_f (w_impl_sameInts a[i] b[i]) (by simp) rfl fun hs1 hh1 => ?_
    simp at hh1
    by_cases he : a[i] = b[i]
    case neg => simp [he, eqt_bad hlt hlb he]
    simp [he, hwi, s36_6, ]
    exact back (i + 1) ⟨by omega, eqt_step hi.eq hlt hlb he⟩ (by omega) rfl (by simp <;> omega) (by simp) (by simp)
  · have hd := eqt_done hi.eq (by omega) hle
    simp [show ¬ i < b.length by omega, hd]
theorem w_spec_EqualRelations (a b : PReln) : VC Try.prog 20 [.agg ((eReln a).map V.d), .agg ((eReln b).map V.d)] (fun _ r => r = .d (.bool (decide (a = b)))) := by
  refine VC.ofL EP s20 (by kernel_rfl) Try.func20 (by rfl) (by kernel_rfl) (by simp [Try.f20]) (by simp [Try.f20]) s20_ok fun B hl => ?_
  simp [pS, maxLen, eHist, eDb, eReln] at hl
  obtain ⟨ah, a⟩ := a
  obtain ⟨bh, b⟩ := b
  simp only at hl
  by_cases h : ah = bh
  case neg => simp [Try.f20, s20_6, h]
  subst h
  by_cases hle : a.length = b.length
  case neg => simp [Try.f20, s20_6, hle, eqt_len hle]
  simp [Try.f20, s20_6, hle]
  refine loop_rule (X := Nat) (EqTo a b) (fun i => [(2, .ptr 2 0 0), (3, .ptr 3 0 0), (5, .d (.int .i64 i))]) (fun i => [(2, some (.box [.d (.int .i64 ah), .d (.pl (a.map (cP cI)))])), (3, some (.box [.d (.int .i64 ah), .d (.pl (b.map (cP cI)))]))]) (fun i => a.length - i) 0 .zero (by simp [hle]) (by simp) ?_
  intro i hs t m hi hh
  have hia := hi.le
  by_cases hlt : i < a.length
  · have hlb : i < b.length := by omega
    have hwi := wr1 (i := i) (by omega)
    simp [hlt, hlb, s20_6, ]
    refine call_f (w_spec_CompareRows a[i] b[i]) (by simp) rfl fun hs1 hh1 => ?_
    simp at hh1
    by_cases he : a[i] = b[i]
    case neg => simp [he, eqt_bad hlt hlb he, cmpL_zero]
    simp [he, hwi, cmpL_self, s20_6, ]
    exact back (i + 1) ⟨by omega, eqt_step hi.eq hlt hlb he⟩ (by omega) rfl (by simp <;> omega) (by simp) (by simp)
  · have hd := eqt_done hi.eq (by omega) hle
    simp [show ¬ i < b.length by omega, hlt, hd]
end

end Go.Proofs.Ytimjeofhffkajaa

namespace Go.Proofs.Ytimjeofhffkajaa
open Go.Vs Go.Proofs Go
set_option maxRecDepth 100000
set_option maxHeartbeats 1000000

theorem t_impl_settled (a : Cnt) (ha : okCnt a) (hl1 : a.rows.xs.length ≤ 4294967296) (hl2 : a.cs.xs.length = a.rows.xs.length) : VC Try.prog 27 [.agg ((cCnt a).map V.d)]
   (fun n r => ∃ y : Cnt, r = .agg ((cCnt y).map V.d) ∧ plCnt y = ⟨a.ar, (sttl (plCnt a).rows (plCnt a).cs).map Prod.fst, (sttl (plCnt a).rows (plCnt a).cs).map Prod.snd⟩ ∧ okCnt y ∧
     (∀ B, B ≤ n → Good (cS (cS cI) a.rows) (whS (whS whI) a.rows) B → Good (cCnt y) (whCnt y) B)) := by
  refine VC.of E s27 (by kernel_rfl) Try.func27 (by rfl) (by kernel_rfl) (by simp [Try.f27]) (by simp [Try.f27]) s27_ok fun B => ?_
  simp [Try.f27, s27_6, cCnt, cS, cI, dSl]
  obtain ⟨ar, ⟨rid, rT, l⟩, ⟨cid, cT, cs⟩⟩ := a
  simp only at hl1 hl2 ⊢
  refine loop_ruleL (X := Nat) (fun i _ => i ≤ cs.length) (fun i => [(1, .ptr 1 0 0), (2, .ptr 2 0 0), (3, .ptr 3 0 0), (10, .d (.sl cid cT (cs.map cI))), (11, .d (.int .i64 cs.length)), (12, .d (.int .i64 i))])
    (fun i => [(1, some (.box [.d (.int .i64 ar), .d (.sl rid rT (l.map (cS cI))), .d (.sl cid cT (cs.map cI))])), (2, some (.box [.d (.int .i64 0), .d (.sl none none []), .d (.sl none none [])])),
      (3, some (.box [.d (.int .i64 ar), .own 27 0 (sttl (l.take i) (cs.take i)).length, .own 33 0 (sttl (l.take i) (cs.take i)).length])),
      (27, some (.row 25 1 (((sttl (l.take i) (cs.take i)).map Prod.fst).map (cS cI)))), (33, some (.row 3 1 (((sttl (l.take i) (cs.take i)).map Prod.snd).map cI)))]) (fun i => cs.length - i) ?_ ?_
  · refine (lead_box 3 1 27 25 1 [.d (.int .i64 ar), .d (.sl none none []), .d (.sl none none [])] (by omega) (by omega) (by omega) (by simp) rfl).bind ?_
    rintro _ rfl
    refine (lead_box 3 2 33 3 1 [.d (.int .i64 ar), .own 27 0 0, .d (.sl none none [])] (by omega) (by omega) (by omega) (by simp) rfl).bind ?_
    rintro _ rfl
    exact Lead.of ⟨0, by simp, rfl, rfl, Nat.le_refl _, by simp, by simp [sttl, dSl]⟩
  · intro i hs t m hi hh
    by_cases hlt : i < cs.length
    · have hwi := wr1 (i := i) (by omega)
      have hil : i < l.length := by omega
      have hss := settle_step (rs := l) (cs := cs) hil hlt
      have hsl : (sttl (l.take i) (cs.take i)).length ≤ i := settle_len (by omega)
      refine anyQ2 fun Q => ?_
      by_cases h0 : cs[i] = 0
      · rw [if_pos h0, List.append_nil] at hss
        simp [hlt, hil, h0, hwi, s27_6, ]
        exact back2 (i + 1) (by omega) (by omega) rfl (by simp <;> omega) (by simp) (by simp [hss])
      · rw [if_neg h0] at hss
        have hLa : LenOk 24 ((sttl (l.take i) (cs.take i)).length + 1) := ⟨by omega, by simp only [maxLen]; omega⟩
        have hLb : LenOk 8 ((sttl (l.take i) (cs.take i)).length + 1) := ⟨by omega, by simp only [maxLen]; omega⟩
        simp [hlt, hil, h0, hwi, hLa, hLb, cS, dSl, s27_6, ]
        exact back2 (i + 1) (by omega) (by omega) rfl (by simp <;> omega) (by simp) (by simp [hss, cS, cI, dSl])
    · have hn : i = cs.length := by omega
      subst hn
      have hsl : (sttl l cs).length ≤ l.length := by
        have := settle_len (rs := l) (cs := cs) (Nat.le_refl l.length)
        rw [List.take_length, List.take_of_length_le (l := cs) (by omega)] at this
        exact this
      simp [List.take_of_length_le, hl2, s27_6, ]
      intro γ hs' h2 hg
      obtain ⟨q1, q2⟩ := gam_at hg (k := 27) (T := 25) (sz := 1) (es := (sttl l cs).map (cS cI ∘ Prod.fst)) (by simp)
      obtain ⟨q3, q4⟩ := gam_at hg (k := 33) (T := 3) (sz := 1) (es := (sttl l cs).map (cI ∘ Prod.snd)) (by simp)
      have r1 := gam_row hg (k := 27) (T := 25) (sz := 1) (es := (sttl l cs).map (cS cI ∘ Prod.fst)) (by simp)
      have r2 := gam_row2 hg (k := 33) (T := 3) (sz := 1) (es := (sttl l cs).map (cI ∘ Prod.snd)) (k2 := 27) (T2 := 25) (sz2 := 1) (es2 := (sttl l cs).map (cS cI ∘ Prod.fst)) (by simp) (by simp)
      have r3 : ∀ g, γ 27 = some g → γ 33 = some g → False := fun g h h' => by
        have := hg.ne 27 33 (.row 25 1 ((sttl l cs).map (cS cI ∘ Prod.fst))) (.row 3 1 ((sttl l cs).map (cI ∘ Prod.snd))) g (by simp) (by simp) h h'
        omega
      clear hg
      have em : (sttl l cs).map (cS cI ∘ Prod.fst) = ((sttl l cs).map Prod.fst).map (cS cI) := by simp
      rw [em] at r1 r2
      have hp1 : hpLL ((sttl l cs).map (cS cI ∘ Prod.fst)) = false := hpLL_map (fun a => by simp) _
      have hp2 : hpLL ((sttl l cs).map (cI ∘ Prod.snd)) = false := hpLL_map (fun a => by simp) _
      simp [hp1, hp2, List.take_of_length_le]
      have hsub := sttl_sub l cs
      refine ⟨⟨ar, ⟨γ 27, some (25, 1), (sttl l cs).map Prod.fst⟩, ⟨γ 33, some (3, 1), (sttl l cs).map Prod.snd⟩⟩, by simp [hp1, hp2, cCnt, cS, cI, dSl, List.take_of_length_le], ?_, ⟨trivial, ⟨by simp only [maxLen, List.length_map]; omega, fun r hr => ha.2.1.2 r (hsub.subset hr)⟩, ⟨by simp only [maxLen, List.length_map]; omega, fun _ _ => trivial⟩⟩, ?_⟩
      · simp only [plCnt, plS, map_plI, PCnt.mk.injEq]
        exact ⟨rfl, sttl_fst _ _ _, sttl_snd _ _ _⟩
      · intro B' hB' G
        have G : Good (cS (cS cI) ⟨rid, rT, l⟩) (whS (whS whI) ⟨rid, rT, l⟩) B' := G
        have hG := G.nd
        rw [idsL_cS] at hG
        have hG2 := (sl_nd hG).1
        have hlo : ∀ g ∈ idsLL (((sttl l cs).map Prod.fst).map (cS cI)), B' ≤ g := fun g hg => G.lo g (by
          rw [idsL_cS]
          exact mem_sl_ids.2 (.inr ((ids_sub hsub).subset hg)))
        have := good_Cnt2 (ar := ar) (T1 := (25, 1)) (T2 := (3, 1)) (hG2.sublist (ids_sub hsub)) hlo (fun r hr => G.wh.2 r (hsub.subset hr)) (fun g h => ⟨Nat.le_trans hB' (q1 g h).1, r1 g h⟩) (by simpa using q2) (fun g h => ⟨Nat.le_trans hB' (q3 g h).1, r2 g h⟩) (cs := (sttl l cs).map Prod.snd) (by simpa using q4) r3
        exact this

end Go.Proofs.Ytimjeofhffkajaa

namespace Go.Proofs.Ytimjeofhffkajaa
open Go.Vs Go.Proofs Go
set_option maxRecDepth 100000
set_option maxHeartbeats 1000000

theorem w_impl_copyIntsT (a : Ints) (ha : okS okI a) (hb : a.xs.length ≤ 4294967296) :
   VC Try.prog 46 [.d (dSl cI a)] (fun n r => ∃ y : Sl Int, r = .d (dSl cI y) ∧ plS plI y = plS plI a ∧ okS okI y ∧ Good (cS cI y) (whS whI y) n ∧ y.T = some (3, 1)) := by
  refine VC.of E s46 (by kernel_rfl) Try.func46 (by rfl) (by kernel_rfl) (by simp [Try.f46]) (by simp [Try.f46]) s46_ok fun B => ?_
  have hL : LenOk 8 a.xs.length := ⟨by omega, by simp only [maxLen]; omega⟩
  simp [Try.f46, dSl, hL, cI]
  intro γ hs' h1 hg
  obtain ⟨q1, q2⟩ := gam_at hg (k := 3) (T := 3) (sz := 1) (es := a.xs.map cI) (by simp [cI])
  have q3 := gam_row hg (k := 3) (T := 3) (sz := 1) (es := a.xs.map cI) (by simp [cI])
  clear hg
  refine ⟨⟨γ 3, some (3, 1), a.xs⟩, ⟨⟨rfl, rfl, by simp [List.take_of_length_le]⟩, rfl, ha, good_row (fun g hg => (q1 g hg).1) (by simpa using q2) q3 ⟨by simp, by simp⟩ (by simp [whI]), rfl⟩⟩
theorem t_impl_tally (c : Cnt) (row : Sl Int) (n : Int) (hc : okCnt c) (hr : okS okI row) (hw : whS whI c.cs) (hnd : (idsL (cCnt c)).Nodup) (hb : c.rows.xs.length ≤ 1000000) (hl2 : c.cs.xs.length = c.rows.xs.length) (hlr : row.xs.length ≤ 4294967296)
   (hn : -1000000 ≤ n ∧ n ≤ 1000000) (hv : ∀ v ∈ c.cs.xs, -1000000000000 ≤ v ∧ v ≤ 1000000000000) :
   VX Try.prog 26 (dSl cI c.cs).ids [.ptr 1000 0 0, .d (dSl cI row), .d (.int .i64 n)] (some ((cCnt c).map V.d))
    (fun m r bx' ws => r = .tup [] ∧ ∃ y : Cnt, bx' = (cCnt y).map V.d ∧ plCnt y = ⟨c.ar, insR (plCnt c).rows row.xs, insC (plCnt c).rows c.cs.xs row.xs n⟩ ∧ okCnt y ∧ (∃ d, ws = [d]) ∧
      (∀ B, B ≤ m → Good (cCnt c) (whCnt c) B → (∀ g ∈ idsL (cCnt c), g < m) → Good (cCnt y) (whCnt y) B)) := by
  refine VX.of E s26 (by kernel_rfl) Try.func26 (by rfl) (by kernel_rfl) (by simp [Try.f26]) (by simp [Try.f26]) s26_ok ?_ ?_ fun B hB => ?_
  · intro g hg; right; show g ∈ idsVL ((cCnt c).map V.d); rw [idsVL_map_d, cCnt, idsL_app, idsL_app, idsL_cS, idsL_cS]; simp [hg]
  · intro bs h; obtain rfl := Option.some.inj h; rfl
  obtain ⟨ar, ⟨rid, rT, l⟩, ⟨cid, cT, cs⟩⟩ := c
  simp only at hw hb hl2 hv ⊢
  have hnd2 : ∀ g, cid = some g → g ∉ (dSl (cS cI) ⟨rid, rT, l⟩).ids := fun g hg hm => by
    rw [cCnt, idsL_app, idsL_app, idsL_cS, idsL_cS] at hnd
    exact (List.nodup_append.1 hnd).2.2 g (by simp [hm]) g (mem_sl_ids.2 (.inl hg)) rfl
  simp [Try.f26, s26_3, s26_4, cCnt, cS, cI, dSl]
  have hlr2 : row.xs.length ≤ maxLen := hr.1
  refine call_f (w_impl_place (plS (plS plI) ⟨rid, rT, l⟩) row.xs (by simpa [plS] using (by omega : l.length ≤ 4294967296))) (by simp [pS, plS, er_cS, erLL_map er_cI, erLL_map (er_cS er_cI), map_plI]) rfl fun hs1 hh1 => ?_
  simp at hh1
  obtain ⟨L, hL⟩ : ∃ L, L = l.map (plS plI) := ⟨_, rfl⟩
  have hLl : L.length = l.length := by rw [hL, List.length_map]
  have hpl : plS (plS plI) (⟨rid, rT, l⟩ : Sl (Sl Int)) = L := by rw [hL]; rfl
  have hk := placeK_le L row.xs
  simp only [hpl]
  obtain ⟨k, hkk⟩ : ∃ k, k = placeK L row.xs := ⟨_, rfl⟩
  simp only [← hkk] at hk ⊢
  cases hb1 : placeB L row.xs
  · have e0 : LenOk 24 k := ⟨by omega, by simp only [maxLen]; omega⟩
    have e1 : LenOk 24 (k + 1) := ⟨by omega, by simp only [maxLen]; omega⟩
    have e2 : LenOk 24 (k + 1 + (l.length - k)) := ⟨by omega, by simp only [maxLen]; omega⟩
    have hkl : k ≤ l.length := by omega
    have hmn : min k l.length = k := by omega
    simp [cS, cI, dSl, hkl, hmn, e0, ← List.map_take, s26_3, s26_4, ]
    refine call_some (w_impl_copyInts row hr hlr) (by simp [dSl, cI]) (by simp) fun n1 hs2 r1 hn1 hm1 hp1 hr1 => ?_
    obtain ⟨w, rfl, pw, kw, Gw⟩ := hp1
    simp at hn1
    simp [cS, cI, dSl, hkl, hmn, e0, e1, e2, ← List.map_take, ← List.map_drop, List.take_of_length_le, s26_3, s26_4, ]
    have hkc : k ≤ cs.length := by omega
    refine ⟨hkc, ?_⟩
    generalize (if cid.isSome = true then none else cT) = T0
    have hC := w_impl_copyIntsT ⟨cid, T0, cs.take k⟩ ⟨by simp only [maxLen, List.length_take]; omega, fun _ _ => trivial⟩ (by simp; omega)
    simp only [dSl] at hC
    repeat' apply And.intro
    all_goals
      refine call_some hC rfl (by simp) fun n2 hs3 r2 hn2 hm2 hp2 hr2 => ?_
      obtain ⟨⟨zid, zT, zx⟩, rfl, pz, kz, Gz, hzT⟩ := hp2
      simp only at hzT
      subst hzT
      have hzx : zx = cs.take k := by simpa [plS, map_plI] using pz
      simp at hn2
      have f1 : LenOk 8 (k + 1) := ⟨by omega, by simp only [maxLen]; omega⟩
      have f2 : LenOk 8 (k + 1 + (cs.length - k)) := ⟨by omega, by simp only [maxLen]; omega⟩
      have hmc : min k cs.length = k := by omega
      cases zid with
      | none =>
        have hz0 : zx = [] := Gz.wh.1.nil rfl
        subst hz0
        have hk0 : k = 0 := by have := congrArg List.length hzx; simp at this; omega
        subst hk0
        have g1 : LenOk 8 1 := ⟨by omega, by simp only [maxLen]; omega⟩
        have g2 : LenOk 8 (1 + cs.length) := ⟨by omega, by simp only [maxLen]; omega⟩
        simp [cI, dSl, g1, g2, vendX, s26_3, s26_4, ]
        refine ⟨[54], fun γ hs' h1 hg => ?_⟩
        obtain ⟨q1, q2⟩ := gam_at hg (k := 29) (T := 25) (sz := 1) (es := (w :: l).map (cS cI)) (by simp [cS, dSl])
        obtain ⟨q3, q4⟩ := gam_at hg (k := 60) (T := 3) (sz := 1) (es := (n :: cs).map cI) (by simp [cI])
        have r1 := gam_row hg (k := 29) (T := 25) (sz := 1) (es := (w :: l).map (cS cI)) (by simp [cS, dSl])
        have r2 := gam_row2 hg (k := 60) (T := 3) (sz := 1) (es := (n :: cs).map cI) (k2 := 29) (T2 := 25) (sz2 := 1) (es2 := (w :: l).map (cS cI)) (by simp [cI]) (by simp [cS, dSl])
        have r3 : ∀ g, γ 29 = some g → γ 60 = some g → False := fun g h h' => by
          have := hg.ne 29 60 (.row 25 1 ((w :: l).map (cS cI))) (.row 3 1 ((n :: cs).map cI)) g (by simp [cS, dSl]) (by simp [cI]) h h'
          omega
        clear hg
        have hp1 : hpLL (l.map (cS cI)) = false := hpLL_map (fun a => by simp) _
        have hp2 : hpLL (cs.map cI) = false := hpLL_map (fun a => by simp) _
        have a1 : 1 + l.length = l.length + 1 := Nat.add_comm _ _
        have a2 : 1 + cs.length = cs.length + 1 := Nat.add_comm _ _
        simp [hp1, hp2, a1, a2, List.take_of_length_le]
        refine ⟨⟨ar, ⟨γ 29, some (25, 1), w :: l⟩, ⟨γ 60, some (3, 1), n :: cs⟩⟩, by simp [cS, dSl, cI], ?_, ⟨trivial, ⟨by simp only [maxLen, List.length_cons]; omega, fun r hr => by
          rcases List.mem_cons.1 hr with h | h
          · subst h; exact kw
          · exact hc.2.1.2 r h⟩, ⟨by simp only [maxLen, List.length_cons]; omega, fun _ _ => trivial⟩⟩, ?_⟩
        · have pw' : w.xs = row.xs := by simpa [plS, map_plI] using pw
          simp only [plCnt, insR, insC, hb1, ← hkk, Bool.false_eq_true, if_false, PCnt.mk.injEq]
          refine ⟨rfl, ?_, ?_⟩
          · rw [hL]; simp [plS, map_plI, pw']
          · simp [plS, map_plI]
        · intro B' hB' G hlt
          have := tally_good (k := 0) (T1 := (25, 1)) (T2 := (3, 1)) (cs' := n :: cs) hB' G hlt (by omega) Gw (fun g h => (q1 g h).1) r1 (q2 (by simp)) (fun g h => (q3 g h).1) r2 (q4 (by simp)) r3
          exact this
      | some zg =>
        have hzlo : n2 ≤ zg := Gz.lo zg (by rw [idsL_cS]; exact mem_sl_ids.2 (.inl rfl))
        have hcB : ∀ g ∈ idsL (cCnt ⟨ar, ⟨rid, rT, l⟩, ⟨cid, cT, cs⟩⟩), g < B := fun g hg => hB g (.inr (by rw [Option.getD_some, idsVL_map_d]; exact hg))
        have hlB : ∀ g ∈ (dSl (cS cI) ⟨rid, rT, l⟩).ids, g < B := fun g hg => hcB g (by rw [cCnt, idsL_app, idsL_app, idsL_cS, idsL_cS]; simp [hg])
        have hkB : ∀ g ∈ (dSl cI ⟨cid, cT, cs⟩).ids, g < B := fun g hg => hcB g (by rw [cCnt, idsL_app, idsL_app, idsL_cS, idsL_cS]; simp [hg])
        have kg : ∀ i, i < n2 → kphi (some zg) i = none := fun i hi => by simp only [kphi]; rw [if_neg (by simp; omega)]
        have eC : reV (kphi (some zg)) (.d (.sl cid cT (cs.map cI))) = .d (.sl cid cT (cs.map cI)) := reV_id (.d (dSl cI ⟨cid, cT, cs⟩)) fun g hg => kg g (by have := hkB g hg; omega)
        have eD : ∀ xs : List Int, reV (kphi (some zg)) (.d (.sl cid T0 (xs.map cI))) = .d (.sl cid T0 (xs.map cI)) := fun xs => reV_id (.d (dSl cI ⟨cid, T0, xs⟩)) fun g hg => kg g (by
          have := hkB g (by
            rcases mem_sl_ids.1 hg with h | h
            · exact mem_sl_ids.2 (.inl h)
            · simp at h)
          omega)
        have eR : reLL (kphi (some zg)) ((l.take k).map (cS cI) ++ [D.sl w.id w.T (w.xs.map cI)] :: (l.drop k).map (cS cI)) = some ((l.take k).map (cS cI) ++ [D.sl w.id w.T (w.xs.map cI)] :: (l.drop k).map (cS cI)) := by
          have e : (l.take k).map (cS cI) ++ [D.sl w.id w.T (w.xs.map cI)] :: (l.drop k).map (cS cI) = (l.take k ++ w :: l.drop k).map (cS cI) := by simp [cS, dSl]
          rw [e]
          refine reLL_id _ (ht := tkLL_map _ (by simp)) fun g hg => kg g ?_
          rw [List.map_append, idsLL_append, List.map_cons] at hg
          simp only [idsLL, List.mem_append] at hg
          rcases hg with h | h | h
          · have := hlB g (mem_sl_ids.2 (.inr ((ids_sub (List.take_sublist k l)).subset h))); omega
          · have := hr1 g (by rw [idsL_cS] at h; exact h); omega
          · have := hlB g (mem_sl_ids.2 (.inr ((ids_sub (List.drop_sublist k l)).subset h))); omega
        have f3 : LenOk 8 (zx.length + 1) := ⟨by rw [hzx]; simp; omega, by rw [hzx]; simp only [maxLen, List.length_take]; omega⟩
        have f4 : LenOk 8 (zx.length + 1 + (cs.length - k)) := ⟨by rw [hzx]; simp; omega, by rw [hzx]; simp only [maxLen, List.length_take]; omega⟩
        have hzB : B ≤ zg := by omega
        simp [cI, dSl, hkc, hmc, f1, f2, f3, f4, hzB, St.kill, eC, eD, eR, ← List.map_take, ← List.map_drop, List.take_of_length_le, s26_3, s26_4, ]
        rw [hzx]
        refine ⟨by simp [idsLL, idsL, D.ids], ?_⟩
        simp [vendX]
        refine ⟨[54], fun γ hs' h1 hg => ?_⟩
        obtain ⟨q1, q2⟩ := gam_at hg (k := 29) (T := 25) (sz := 1) (es := (l.take k ++ w :: l.drop k).map (cS cI)) (by simp [cS, dSl])
        obtain ⟨q3, q4⟩ := gam_at hg (k := 60) (T := 3) (sz := 1) (es := (cs.take k ++ n :: cs.drop k).map cI) (by simp [cI])
        have r1 := gam_row hg (k := 29) (T := 25) (sz := 1) (es := (l.take k ++ w :: l.drop k).map (cS cI)) (by simp [cS, dSl])
        have r2 := gam_row2 hg (k := 60) (T := 3) (sz := 1) (es := (cs.take k ++ n :: cs.drop k).map cI) (k2 := 29) (T2 := 25) (sz2 := 1) (es2 := (l.take k ++ w :: l.drop k).map (cS cI)) (by simp [cI]) (by simp [cS, dSl])
        have r3 : ∀ g, γ 29 = some g → γ 60 = some g → False := fun g h h' => by
          have := hg.ne 29 60 (.row 25 1 ((l.take k ++ w :: l.drop k).map (cS cI))) (.row 3 1 ((cs.take k ++ n :: cs.drop k).map cI)) g (by simp [cS, dSl]) (by simp [cI]) h h'
          omega
        clear hg
        have hp1 : ∀ l : List Ints, hpLL (l.map (cS cI)) = false := fun l => hpLL_map (fun a => by simp) _
        have hp2 : ∀ l : List Int, hpLL (l.map cI) = false := fun l => hpLL_map (fun a => by simp) _
        have a1 : k + 1 + (l.length - k) = k + (l.length - k + 1) := by omega
        have a2 : k + 1 + (cs.length - k) = k + (cs.length - k + 1) := by omega
        have p1 : hpLL (List.take k (List.map (cS cI) l)) = false := by rw [← List.map_take]; exact hp1 _
        have p2 : hpLL (List.drop k (List.map (cS cI) l)) = false := by rw [← List.map_drop]; exact hp1 _
        have p3 : hpLL (List.take k (List.map cI cs)) = false := by rw [← List.map_take]; exact hp2 _
        have p4 : hpLL (List.drop k (List.map cI cs)) = false := by rw [← List.map_drop]; exact hp2 _
        simp [p1, p2, p3, p4, hmn, hmc, a1, a2, List.take_of_length_le]
        refine ⟨⟨ar, ⟨γ 29, some (25, 1), l.take k ++ w :: l.drop k⟩, ⟨γ 60, some (3, 1), cs.take k ++ n :: cs.drop k⟩⟩, by simp [cS, dSl, cI], ?_, ⟨trivial, ⟨by simp only [maxLen, List.length_append, List.length_take, List.length_cons, List.length_drop]; omega, fun r hr => by
          rcases List.mem_append.1 hr with h | h
          · exact hc.2.1.2 r (List.mem_of_mem_take h)
          rcases List.mem_cons.1 h with h | h
          · subst h; exact kw
          · exact hc.2.1.2 r (List.mem_of_mem_drop h)⟩, ⟨by simp only [maxLen, List.length_append, List.length_take, List.length_cons, List.length_drop]; omega, fun _ _ => trivial⟩⟩, ?_⟩
        · have pw' : w.xs = row.xs := by simpa [plS, map_plI] using pw
          simp only [plCnt, insR, insC, hb1, ← hkk, Bool.false_eq_true, if_false, PCnt.mk.injEq]
          refine ⟨rfl, ?_, ?_⟩
          · rw [hL]; simp [plS, map_plI, pw']
          · simp [plS, map_plI]
        · intro B' hB' G hlt
          have := tally_good (k := k) (T1 := (25, 1)) (T2 := (3, 1)) (cs' := cs.take k ++ n :: cs.drop k) hB' G hlt (by omega) Gw (fun g h => (q1 g h).1) r1 (q2 (by simp)) (fun g h => (q3 g h).1) r2 (q4 (by simp)) r3
          exact this
  · obtain ⟨hk1, hkx⟩ := placeB_at hb1
    rw [← hkk] at hk1
    have hkc : k < cs.length := by omega
    obtain ⟨g, hg, T', hT⟩ := hw.1.id hkc
    simp only at hg hT
    subst hg hT
    have hvk := hv cs[k] (List.getElem_mem hkc)
    have hw1 : IntKind.i64.wrap (cs[k] + n) = cs[k] + n := wrap64_of (by omega) (by omega)
    simp [hkc, hw1, cI, s26_3, s26_4, ]
    have e2 := re_oneSet (g := g) (T := T') (es := List.map cI cs) (i := k) (e' := [D.int IntKind.i64 (cs[k] + n)]) (fun e he => by
      rw [List.getElem?_map] at he
      simp [hkc] at he
      rw [← he]; rfl)
    have e3 : reV (one g (.sl (some g) (some T') ((List.map cI cs).set k [D.int IntKind.i64 (cs[k] + n)]))) (.d (.sl rid rT (l.map (cS cI)))) = .d (.sl rid rT (l.map (cS cI))) := reV_id (.d (dSl (cS cI) ⟨rid, rT, l⟩)) (fun g' hg' => by
      simp only [one]
      split
      · rename_i h; subst h; exact absurd hg' (hnd2 _ rfl)
      · rfl)
    simp [e2, e3, vendX]
    refine ⟨[21], fun γ hs' h1 h2 => ?_⟩
    simp
    refine ⟨⟨ar, ⟨rid, rT, l⟩, ⟨some g, some T', cs.set k (cs[k] + n)⟩⟩, by simp [List.map_set, cI], ?_, ⟨trivial, hc.2.1, ⟨by have := hc.2.2.1; simpa using this, fun _ _ => trivial⟩⟩, ?_⟩
    · simp only [plCnt, insR, insC, hb1, if_true, ← hkk, getD_el _ hkc, hpl]
      simp [plS, map_plI, plI]
    · intro B' hB' G hlt
      have e : idsL (cCnt ⟨ar, ⟨rid, rT, l⟩, ⟨some g, some T', cs.set k (cs[k] + n)⟩⟩) = idsL (cCnt ⟨ar, ⟨rid, rT, l⟩, ⟨some g, some T', cs⟩⟩) := by
        have hi : ∀ xs : List Int, (dSl cI ⟨some g, some T', xs⟩).ids = [g] := fun xs => by simp [dSl, D.ids]
        simp only [cCnt, idsL_app, idsL_cS, hi]
      have G : Good (cCnt ⟨ar, ⟨rid, rT, l⟩, ⟨some g, some T', cs⟩⟩) (whCnt ⟨ar, ⟨rid, rT, l⟩, ⟨some g, some T', cs⟩⟩) B' := G
      have : Good (cCnt ⟨ar, ⟨rid, rT, l⟩, ⟨some g, some T', cs.set k (cs[k] + n)⟩⟩) (whCnt ⟨ar, ⟨rid, rT, l⟩, ⟨some g, some T', cs.set k (cs[k] + n)⟩⟩) B' :=
        ⟨e ▸ G.nd, e ▸ G.lo, ⟨trivial, G.wh.2.1, ⟨hw.1.of (by simp), fun _ _ => trivial⟩⟩⟩
      exact this

end Go.Proofs.Ytimjeofhffkajaa

namespace Go.Proofs.Ytimjeofhffkajaa
open Go.Vs Go.Proofs Go
set_option maxRecDepth 100000
set_option maxHeartbeats 1000000

theorem t_impl_AddCounted (a b : Cnt) (ha : okCnt a) (hb : okCnt b) : VC Try.prog 7 [.agg ((cCnt a).map V.d), .agg ((cCnt b).map V.d)]
   (fun n r => ∃ y : Cnt, r = .tup [.agg ((cCnt y).map V.d), .d (.bool (addCB (plCnt a) (plCnt b)))] ∧ plCnt y = addCP (plCnt a) (plCnt b) ∧ okCnt y ∧ Good (cCnt y) (whCnt y) n) := by
  refine VC.ofB E s7 (by kernel_rfl) Try.func7 (by rfl) (by kernel_rfl) (by simp [Try.f7]) (by simp [Try.f7]) s7_ok fun B hB => ?_
  have hbB : ∀ g ∈ idsL (cCnt b), g < B := fun g hg => hB g (by simp only [idsVL, V.ids, idsVL_map_d, List.mem_append]; simp [hg])
  have hno : ∀ hB0 : addCB (plCnt a) (plCnt b) = false, ∃ y : Cnt, V.tup [.agg ((cCnt ⟨0, nilS, nilS⟩).map V.d), .d (.bool false)] = .tup [.agg ((cCnt y).map V.d), .d (.bool (addCB (plCnt a) (plCnt b)))] ∧ plCnt y = addCP (plCnt a) (plCnt b) ∧ okCnt y ∧ Good (cCnt y) (whCnt y) B := fun hB0 =>
    ⟨⟨0, nilS, nilS⟩, by rw [hB0], by simp only [addCP, hB0]; rfl, ⟨trivial, ok_nilS, ok_nilS⟩, good_Cnt0 B⟩
  simp only [cCnt, cS, cI, nilS, dSl] at hno
  simp at hno
  simp [Try.f7, cCnt, cS, cI, dSl]
  refine call_f (w_impl_IsValidCounted (plCnt a)) (by simp [eCnt, er_SI, er_I, plCnt, pS, plS, erLL_map er_cI, erLL_map (er_cS er_cI), map_plI]) rfl fun hs0 hh0 => ?_
  simp at hh0
  cases h1 : cntsOk (plCnt a)
  · have hB0 : addCB (plCnt a) (plCnt b) = false := by simp [addCB, h1]
    simp
    exact hno hB0
  simp [dSl]
  refine call_f (w_impl_IsValidCounted (plCnt b)) (by simp [eCnt, er_SI, er_I, plCnt, pS, plS, erLL_map er_cI, erLL_map (er_cS er_cI), map_plI]) rfl fun hs1 hh1 => ?_
  simp at hh1
  cases h2 : cntsOk (plCnt b)
  · have hB0 : addCB (plCnt a) (plCnt b) = false := by simp [addCB, h2]
    simp
    exact hno hB0
  by_cases h3 : a.ar = b.ar
  case neg =>
    have hB0 : addCB (plCnt a) (plCnt b) = false := by simp [addCB, plCnt, plI, h3]
    simp [h3]
    exact hno hB0
  simp [h3, dSl]
  have ea : (⟨b.ar, a.rows, a.cs⟩ : Cnt) = a := by rw [← h3]
  have hlen := rowsOk_len (cntsOk_rows h1)
  have hrow := rowsOk_row (cntsOk_rows h1)
  have hcl := cntsOk_len h1
  have hlenb := rowsOk_len (cntsOk_rows h2)
  have hrowb := rowsOk_row (cntsOk_rows h2)
  have hclb := cntsOk_len h2
  have hcsa := cntsOk_cs h1
  have hcsb := cntsOk_cs h2
  have hsrt := rowsOk_srt (cntsOk_rows h1)
  have hrl : (plCnt b).rows.length = b.rows.xs.length := by simp [plCnt, plS]
  have hcs : (plCnt b).cs = b.cs.xs := by simp [plCnt, plS, map_plI]
  have hclb2 : b.cs.xs.length = b.rows.xs.length := by rw [← hrl, ← hcs]; omega
  have hl1 : a.rows.xs.length ≤ 4000 := by simpa [plS] using hlen
  have hl3 : a.cs.xs.length ≤ 4000 := by have : a.rows.xs.length = a.cs.xs.length := by simpa [plS] using hcl
                                         omega
  have hl2 : ∀ r ∈ a.rows.xs, r.xs.length ≤ 4294967296 := fun r hr => by
    have := hrow (plS plI r) (List.mem_map_of_mem hr)
    simp [plS] at this; omega
  refine call_some (w_impl_copyCounted ⟨b.ar, a.rows, a.cs⟩ ⟨trivial, ha.2⟩ (by show a.rows.xs.length ≤ _; omega) hl2 (by show a.cs.xs.length ≤ _; omega)) (by simp [cCnt, cS, cI, dSl]) (by simp) fun n2 hs2 r2 hn2 hm2 hp2 hr2 => ?_
  obtain ⟨y0, rfl, p0, k0, G0⟩ := hp2
  rw [ea] at p0
  have u0 : ∀ g ∈ idsL (cCnt y0), g < hs2 := fun g hg => hr2 g (by rw [ids_agg]; exact hg)
  simp at hn2
  clear hr2
  simp [cCnt, cS, cI, dSl]
  refine loop_ruleL (X := Nat × Cnt) (TalI (plCnt a) (plCnt b) B) (fun p => [(3, .ptr 3 0 0), (4, .ptr 4 0 0), (6, .ptr 6 0 0), (29, .d (.sl b.rows.id b.rows.T (b.rows.xs.map (cS cI)))), (30, .d (.int .i64 b.rows.xs.length)), (31, .d (.int .i64 p.1))])
    (fun p => [(3, some (.box [.d (.int .i64 b.ar), .d (.sl b.rows.id b.rows.T (b.rows.xs.map (cS cI))), .d (.sl b.cs.id b.cs.T (b.cs.xs.map cI))])), (4, some (.box [.d (.int .i64 0), .d (.sl none none []), .d (.sl none none [])])),
      (6, some (.box [.d (.int .i64 p.2.ar), .d (.sl p.2.rows.id p.2.rows.T (p.2.rows.xs.map (cS cI))), .d (.sl p.2.cs.id p.2.cs.T (p.2.cs.xs.map cI))]))]) (fun p => b.rows.xs.length - p.1) ?_ ?_
  · refine Lead.of ⟨(0, y0), ⟨by simp, ?_, ?_, ?_, k0, G0.le (by omega), u0⟩, rfl, rfl, Nat.le_refl _, by simp, by simp⟩
    · exact congrArg PCnt.ar p0
    · simp only [List.take_zero, List.foldl_nil]; exact congrArg PCnt.rows p0
    · simp only [List.take_zero, talC]; exact congrArg PCnt.cs p0
  rintro ⟨i, y⟩ hs t m hI hh
  have hi := hI.le
  simp only [hrl] at hi
  obtain ⟨b1, b2, b3⟩ := hI.bd hsrt (by omega) (by omega) hlen hlenb hcsa hcsb
  simp only at b1 b2 b3
  by_cases hlt : i < b.rows.xs.length
  · have hltc : i < b.cs.xs.length := by omega
    have hwi := wr1 (i := i) (by omega)
    have hbr : ∀ g ∈ (dSl (cS cI) b.rows).ids, g < B := fun g hg => hbB g (by rw [cCnt, idsL_app, idsL_app, idsL_cS, idsL_cS]; simp [hg])
    have hbc : ∀ g ∈ (dSl cI b.cs).ids, g < B := fun g hg => hbB g (by rw [cCnt, idsL_app, idsL_app, idsL_cS, idsL_cS]; simp [hg])
    have hyc : ∀ g ∈ (dSl cI y.cs).ids, B ≤ g := fun g hg => hI.good.lo g (by rw [cCnt, idsL_app, idsL_app, idsL_cS, idsL_cS]; simp [hg])
    have hcb := hcsb b.cs.xs[i] (by rw [hcs]; exact List.getElem_mem hltc)
    have hT := t_impl_tally y b.rows.xs[i] b.cs.xs[i] hI.ok (hb.2.1.2 _ (List.getElem_mem hlt)) hI.good.wh.2.2 hI.good.nd (by omega) b2 (by
      have := hrowb (plS plI b.rows.xs[i]) (List.mem_map_of_mem (List.getElem_mem hlt))
      simp [plS] at this; omega) hcb b3
    obtain ⟨W, hW⟩ : ∃ W, W = (dSl cI y.cs).ids := ⟨_, rfl⟩
    rw [← hW] at hT hyc
    have eW : ∀ (ws : List D) g, g < B → phi W ws g = none := fun ws g hg => by
      simp only [phi]; rw [if_neg]; intro h; have := hyc g h; omega
    have e1 : ∀ ws, reV (phi W ws) (.d (.sl b.rows.id b.rows.T (b.rows.xs.map (cS cI)))) = .d (.sl b.rows.id b.rows.T (b.rows.xs.map (cS cI))) := fun ws => reV_id (.d (dSl (cS cI) b.rows)) fun g hg => eW ws g (hbr g hg)
    have e2 : ∀ ws, reV (phi W ws) (.d (.sl b.cs.id b.cs.T (b.cs.xs.map cI))) = .d (.sl b.cs.id b.cs.T (b.cs.xs.map cI)) := fun ws => reV_id (.d (dSl cI b.cs)) fun g hg => eW ws g (hbc g hg)
    refine anyQ2 fun Q => ?_
    simp [hlt, hltc, cS, cI, dSl]
    refine call_b (k := 6) (E26) (by simp [dSl]) (by simp [cCnt, cS, cI, dSl]) (by simp) (by simp [cCnt, cS, cI, dSl]) (by simp) (by simp [cCnt, cS, cI, dSl]) (fun g hg => .inl (hyc g hg)) hT fun n3 hs3 r3 cs3 ws3 hn3 hm3 hp3 hr3 hv3 hw3 => ?_
    obtain ⟨rfl, z, rfl, pz, kz, _, Gz⟩ := hp3
    simp at hn3
    have u3 : ∀ g ∈ idsL (cCnt z), g < hs3 := fun g hg => hv3 g (by rw [idsVL_map_d]; exact hg)
    simp [cCnt, cS, cI, dSl, hwi, e1, e2]
    refine back2 (i + 1, z) (hI.step (m := n3) (by omega) (by omega) (by rw [hcs]; omega) ?_ kz (by omega) (by omega) Gz u3) (by simp only; omega) rfl (by simp <;> omega) (by simp) (by simp [e1, e2])
    rw [pz]
    simp [plCnt, plS, map_plI]
  · obtain ⟨f1, f2⟩ := hI.fin (by omega) hsrt (by omega) (by omega)
    have har : y.ar = a.ar := hI.ar
    have Gr : Good (cS (cS cI) y.rows) (whS (whS whI) y.rows) B := by
      have h1 := hI.good.nd
      rw [cCnt, idsL_app, idsL_app] at h1
      exact ⟨(List.nodup_append.1 (List.nodup_append.1 h1).1).2.1, fun g hg => hI.good.lo g (by rw [cCnt, idsL_app, idsL_app]; simp [hg]), hI.good.wh.2.1⟩
    simp [hlt, cS, cI, dSl]
    refine call_some (t_impl_settled y hI.ok (by omega) b2) (by simp [cCnt, cS, cI, dSl]) (by simp) fun n4 hs4 r4 hn4 hm4 hp4 hr4 => ?_
    obtain ⟨z, rfl, pz, kz, Gz⟩ := hp4
    simp at hn4
    clear hr4
    have pz' : plCnt z = sumOf (plCnt a).ar ((plCnt a).rows ++ (plCnt b).rows) ((plCnt a).cs ++ (plCnt b).cs) := by
      rw [pz, f1, f2, sumOf, har]; rfl
    have hyl : (srtU ((plCnt a).rows ++ (plCnt b).rows)).length = y.rows.xs.length := by rw [← f1]; simp [plCnt, plS]
    have hadd : addCB (plCnt a) (plCnt b) = (decide (y.rows.xs.length ≤ 4000) && cntsOk (plCnt z)) := by
      have h3' : (plCnt a).ar = (plCnt b).ar := h3
      rw [pz', addCB, h1, h2, sumB, hyl, decide_eq_true h3']; simp only [Bool.true_and]
    by_cases h4 : (y.rows.xs.length : Int) ≤ 4000
    case neg =>
      have hB0 : addCB (plCnt a) (plCnt b) = false := by rw [hadd]; simp; intro h; omega
      have h4' : (4000 : Int) < y.rows.xs.length := by omega
      simp [cCnt, cS, cI, dSl, h4, h4']
      exact hno hB0
    have h4' : ¬ (4000 : Int) < y.rows.xs.length := by omega
    simp [cCnt, cS, cI, dSl, h4, h4']
    refine call_f (w_impl_IsValidCounted (plCnt z)) (by simp [eCnt, er_SI, er_I, plCnt, pS, plS, erLL_map er_cI, erLL_map (er_cS er_cI), map_plI]) rfl fun hs5 hh5 => ?_
    simp at hh5
    cases h5 : cntsOk (plCnt z)
    · have hB0 : addCB (plCnt a) (plCnt b) = false := by rw [hadd, h5, Bool.and_false]
      simp
      exact hno hB0
    have hB1 : addCB (plCnt a) (plCnt b) = true := by rw [hadd, h5, Bool.and_true]; simp; omega
    simp
    refine ⟨z, by simp [cCnt, cS, cI, dSl, hB1], by rw [pz', addCP, hB1]; rfl, kz, Gz B (by omega) Gr⟩

end Go.Proofs.Ytimjeofhffkajaa

namespace Go.Proofs.Ytimjeofhffkajaa
open Go.Vs Go.Proofs Go
set_option maxRecDepth 100000
set_option maxHeartbeats 1000000

theorem w_spec_l27Sum (ar : Int) (l : List (List Int)) (cs : List Int) (hr : inR ar 0 5 = true) (hm : ∀ x ∈ l, (x.length : Int) = ar ∧ valsOk x = true) (hlc : cs.length = l.length) (hb : l.length ≤ 100000) (hc : ∀ c ∈ cs, -1000000 ≤ c ∧ c ≤ 1000000) :
   VC Try.prog 28 [.d (.int .i64 ar), .d (pS (cP cI) l), .d (pS cI cs)] (fun _ v => v = .tup [.agg ((eCnt (sumP ar l cs)).map .d), .d (.bool (sumB ar l cs))]) := by
  have hx5 : ∀ x ∈ l, x.length ≤ 5 := fun x hx => by
    have h1 := (hm x hx).1
    simp only [inR, Bool.and_eq_true, decide_eq_true_eq] at hr
    omega
  have hnB := newB_of hr hm
  have hRs := srtU_srt l
  have hRl := srtU_len l
  refine VC.ofL EP s28 (by kernel_rfl) Try.func28 (by rfl) (by kernel_rfl) (by simp [Try.f28]) (by simp [Try.f28]) s28_ok fun B hl => ?_
  simp [Try.f28, s28_8, s28_9, s28_15, s28_16, s28_8, s28_9, s28_15, s28_16, ]
  refine call_p (w_spec_NewRelation ar l (by omega) (fun x hx => by have := hx5 x hx; omega)) (by simp) fun hs1 hh1 _ => ?_
  simp at hh1
  by_cases h4 : (srtU l).length ≤ 4000
  case neg => simp [newR, hnB, h4, sumP, sumB, eReln, eCnt]
  have hmR : ∀ x, x ∈ l → x ∈ srtU l := fun x hx => (srtU_mem l x).2 hx
  have hRe : newR ar l = ⟨ar, srtU l⟩ := by simp [newR, hnB, h4]
  have hsum : sumsOf l cs = (srtU l).map (lkC l cs) := rfl
  simp [hRe, hnB, h4, eReln]
  obtain ⟨R, hRR⟩ : ∃ R, R = srtU l := ⟨_, rfl⟩
  simp only [← hRR] at hRs hRl h4 hmR hsum ⊢
  have hL0 : LenOk 8 R.length := ⟨by omega, by simp only [maxLen]; omega⟩
  simp [hL0]
  refine loop_rule (X := Nat) (fun i => i ≤ l.length) (fun i => [(0, .d (.int .i64 ar)), (1, .d (.pl (l.map (cP cI)))), (2, .d (.pl (cs.map cI))), (6, .ptr 6 0 0), (8, .ptr 8 0 0), (10, .own 28 0 R.length), (11, .d (.int .i64 i))])
    (fun i => [(6, some (.box [.d (.int .i64 0), .d (.sl none none []), .d (.sl none none [])])), (8, some (.box [.d (.int .i64 ar), .d (.pl (R.map (cP cI)))])), (28, some (.row 3 1 ((sumsTo R l cs i).map cI)))]) (fun i => l.length - i) 0 (by simp) (by simp) (by simp [sumsTo_zero]) ?_
  · intro i hs t m hi hh
    by_cases hlt : i < l.length
    · have hwi := wr1 (i := i) (by omega)
      have hic : i < cs.length := by omega
      obtain ⟨hk, hkx⟩ := placeB_at ((placeB_iff hRs).2 (hmR _ (List.getElem_mem hlt)))
      simp [hlt, cP, s28_8, s28_9, s28_15, s28_16, ]
      refine call_f (w_spec_l5Place ⟨ar, R⟩ l[i] (by simp; omega)) (by simp [eReln]) rfl fun hs1 hh1 => ?_
      simp at hh1
      obtain ⟨k, hkk⟩ : ∃ k, k = placeK R l[i] := ⟨_, rfl⟩
      simp only [← hkk] at hk ⊢
      have hst := sumsTo_step (cs := cs) hRs hlt hic (hmR _ (List.getElem_mem hlt)) hkk hk
      have hbd := sumsTo_bd (l := l) (cs := cs) (i := i) hk hi hc
      have hbc := hc cs[i] (List.getElem_mem hic)
      have hw : IntKind.i64.wrap ((sumsTo R l cs i)[k]'(by simpa using hk) + cs[i]) = (sumsTo R l cs i)[k]'(by simpa using hk) + cs[i] := wrap64_of (by omega) (by omega)
      simp [hk, hic, hw, hwi, s28_8, s28_9, s28_15, s28_16, ]
      exact back (i + 1) (by omega) (by omega) rfl (by simp <;> omega) (by simp) (by simp [← hst, List.map_set, cI])
    · have hn : i = l.length := by omega
      subst hn
      have hall : sumsTo R l cs l.length = sumsOf l cs := hRR ▸ sumsTo_all hlc
      obtain ⟨S, hS⟩ : ∃ S, S = sumsOf l cs := ⟨_, rfl⟩
      have hSl : S.length = R.length := by rw [hS, ← hall, sumsTo_length]
      rw [hall, ← hS]
      simp [s28_8, s28_9, s28_15, s28_16, ]
      refine loop_ruleL (X := Nat) (fun i _ => i ≤ R.length) (fun i => [(6, .ptr 6 0 0), (8, .ptr 8 0 0), (10, .own 28 0 R.length), (14, .ptr 14 0 0), (15, .d (.int .i64 i))])
        (fun i => [(6, some (.box [.d (.int .i64 0), .d (.sl none none []), .d (.sl none none [])])), (8, some (.box [.d (.int .i64 ar), .d (.pl (R.map (cP cI)))])), (14, some (.box [.d (.int .i64 ar), .own 78 0 (sttl (R.take i) (S.take i)).length, .own 87 0 (sttl (R.take i) (S.take i)).length])),
          (28, some (.row 3 1 (S.map cI))), (78, some (.row 25 1 (((sttl (R.take i) (S.take i)).map Prod.fst).map (cP cI)))), (87, some (.row 3 1 (((sttl (R.take i) (S.take i)).map Prod.snd).map cI)))]) (fun i => R.length - i) ?_ ?_
      · refine (lead_box 14 1 78 25 1 [.d (.int .i64 ar), .d (.sl none none []), .d (.sl none none [])] (by omega) (by omega) (by omega) (by simp) rfl).bind ?_
        rintro _ rfl
        refine (lead_box 14 2 87 3 1 [.d (.int .i64 ar), .own 78 0 0, .d (.sl none none [])] (by omega) (by omega) (by omega) (by simp) rfl).bind ?_
        rintro _ rfl
        exact Lead.of ⟨0, by simp, rfl, rfl, Nat.le_refl _, by simp, by simp [sttl]⟩
      · intro i hs2 t2 m2 hi2 hh2
        by_cases hlt2 : i < R.length
        · have hwi := wr1 (i := i) (by omega)
          have hiS : i < S.length := by omega
          have hss := settle_step (rs := R) (cs := S) hlt2 hiS
          have hsl : (sttl (R.take i) (S.take i)).length ≤ i := settle_len hi2
          refine anyQ2 fun Q => ?_
          by_cases h0 : S[i] = 0
          · rw [if_pos h0, List.append_nil] at hss
            simp [hlt2, hiS, h0, hwi, show R.length ≤ S.length by omega, s28_8, s28_9, s28_15, s28_16, ]
            exact back2 (i + 1) (by omega) (by omega) rfl (by simp <;> omega) (by simp [hss]) (by simp [hss])
          · rw [if_neg h0] at hss
            have hLa : LenOk 24 ((sttl (R.take i) (S.take i)).length + 1) := ⟨by omega, by simp only [maxLen]; omega⟩
            have hLb : LenOk 8 ((sttl (R.take i) (S.take i)).length + 1) := ⟨by omega, by simp only [maxLen]; omega⟩
            simp [hlt2, hiS, h0, hwi, hLa, hLb, show R.length ≤ S.length by omega, s28_8, s28_9, s28_15, s28_16, ]
            exact back2 (i + 1) (by omega) (by omega) rfl (by simp <;> omega) (by simp [hss]) (by simp [hss])
        · have hn : i = R.length := by omega
          subst hn
          simp [List.take_of_length_le, hSl, s28_8, s28_9, s28_15, s28_16, ]
          have hsl : (sttl R S).length ≤ R.length := by
            have := settle_len (rs := R) (cs := S) (Nat.le_refl R.length)
            rw [List.take_length, List.take_of_length_le (l := S) (by omega)] at this
            exact this
          have hso : sumOf ar l cs = ⟨ar, (sttl R S).map Prod.fst, (sttl R S).map Prod.snd⟩ := by simp only [sumOf, ← hRR, ← hS]
          refine call_f (w_spec_IsValidCounted (sumOf ar l cs)) (by simp [eCnt, hso, List.take_of_length_le]) rfl fun hs3 hh3 => ?_
          simp at hh3
          cases hv : cntsOk (sumOf ar l cs)
          · simp [sumP, sumB, hv, eCnt]
          · have hB : sumB ar l cs = true := by simp [sumB, hv, ← hRR, h4]
            simp [sumP, hB, hso, eCnt, List.take_of_length_le]

end Go.Proofs.Ytimjeofhffkajaa

namespace Go.Proofs.Ytimjeofhffkajaa
open Go.Vs Go.Proofs Go
set_option maxRecDepth 100000
set_option maxHeartbeats 1000000

theorem w_spec_AddCounted (a b : PCnt) : VC Try.prog 8 [.agg ((eCnt a).map .d), .agg ((eCnt b).map .d)] (fun _ v => v = .tup [.agg ((eCnt (addCP a b)).map .d), .d (.bool (addCB a b))]) := by
  refine VC.ofL EP s8 (by kernel_rfl) Try.func8 (by rfl) (by kernel_rfl) (by simp [Try.f8]) (by simp [Try.f8]) s8_ok fun B hl => ?_
  simp [Try.f8, s8_3, eCnt, s8_3, ]
  refine call_f (w_spec_IsValidCounted a) (by simp [eCnt]) rfl fun hs1 hh1 => ?_
  simp at hh1
  cases h1 : cntsOk a
  · simp [addCP, addCB, h1, eCnt]
  simp
  refine call_f (w_spec_IsValidCounted b) (by simp [eCnt]) rfl fun hs2 hh2 => ?_
  simp at hh2
  cases h2 : cntsOk b
  · simp [addCP, addCB, h1, h2, eCnt]
  by_cases har : a.ar = b.ar
  case neg => simp [addCP, addCB, h1, h2, har, eCnt]
  have ra := cntsOk_rows h1
  have rb := cntsOk_rows h2
  have la := rowsOk_len ra
  have lb := rowsOk_len rb
  have ca := cntsOk_len h1
  have cb := cntsOk_len h2
  have e1 : LenOk 24 a.rows.length := ⟨by omega, by simp only [maxLen]; omega⟩
  have e2 : LenOk 24 (a.rows.length + b.rows.length) := ⟨by omega, by simp only [maxLen]; omega⟩
  have e3 : LenOk 8 a.cs.length := ⟨by omega, by simp only [maxLen]; omega⟩
  have e4 : LenOk 8 (a.cs.length + b.cs.length) := ⟨by omega, by simp only [maxLen]; omega⟩
  have hC := w_spec_l27Sum a.ar (a.rows ++ b.rows) (a.cs ++ b.cs) (rowsOk_inR ra) (fun x hx => by
    rcases List.mem_append.1 hx with hx | hx
    · exact rowsOk_mem ra hx
    · rw [har]; exact rowsOk_mem rb hx) (by simp; omega) (by simp; omega) (fun c hc => by
    rcases List.mem_append.1 hc with hc | hc
    · exact cntsOk_cs h1 c hc
    · exact cntsOk_cs h2 c hc)
  simp [har, e1, e2, e3, e4, cP, s8_3, ]
  rw [har] at hC
  repeat' apply And.intro
  all_goals
    refine call_p hC (by simp [List.take_of_length_le]) fun hs3 hh3 _ => ?_
    simp at hh3
    cases hB : sumB b.ar (a.rows ++ b.rows) (a.cs ++ b.cs)
    · simp [addCP, addCB, h1, h2, har, hB, sumP, eCnt]
    · simp [addCP, addCB, h1, h2, har, hB, sumP, eCnt]

end Go.Proofs.Ytimjeofhffkajaa

namespace Go.Proofs.Ytimjeofhffkajaa
open Go.Vs Go.Proofs Go
set_option maxRecDepth 100000
set_option maxHeartbeats 1000000

def neg64 (n : Int) : Int := IntKind.i64.wrap (-n)
def negAt (l : List Int) (i : Nat) : List Int := (l.take i).map neg64 ++ l.drop i
@[simp] theorem negAt_zero (l : List Int) : negAt l 0 = l := by simp [negAt]
@[simp] theorem negAt_length (l : List Int) (i : Nat) : (negAt l i).length = l.length := by simp [negAt]; omega
theorem negAt_all {l : List Int} {i : Nat} (h : i = l.length) : negAt l i = l.map neg64 := by subst h; simp [negAt]
theorem negAt_succ {l : List Int} {i : Nat} (h : i < l.length) : (negAt l i).set i (neg64 l[i]) = negAt l (i + 1) := by
  simp only [negAt]
  rw [List.take_succ_eq_append_getElem h, List.map_append, List.set_append_right _ _ (by simp; omega)]
  have e : l.drop i = l[i] :: l.drop (i + 1) := List.drop_eq_getElem_cons h
  have e0 : i - (List.map neg64 (l.take i)).length = 0 := by simp; omega
  rw [e0, e]
  simp only [List.set_cons_zero, List.map_cons, List.map_nil, List.append_assoc, List.cons_append, List.nil_append]
theorem negAt_get {l : List Int} {i : Nat} (h : i < l.length) : (negAt l i)[i]? = some l[i] := by
  simp only [negAt]
  rw [List.getElem?_append_right (by simp; omega)]
  have : i - (List.map neg64 (l.take i)).length = 0 := by simp; omega
  rw [this]
  simp [h]
theorem negAt_at {l : List Int} {i : Nat} (h : i < l.length) (h' : i < (negAt l i).length) : (negAt l i)[i] = l[i] := by
  have := negAt_get h
  rw [List.getElem?_eq_getElem h'] at this
  exact Option.some.inj this
/-- counts turned, as the machine does it -/
def negW (z : PCnt) : PCnt := ⟨z.ar, z.rows, z.cs.map neg64⟩
section
attribute [local simp] plI_id plStr_id map_plI map_plStr
theorem t_impl_NegateCounted (a : Cnt) (ha : okCnt a) (hb : a.rows.xs.length ≤ 4294967296) (hb2 : ∀ r ∈ a.rows.xs, r.xs.length ≤ 4294967296) (hb3 : a.cs.xs.length ≤ 4294967296) :
   VC Try.prog 12 [.agg ((cCnt a).map V.d)] (fun n r => ∃ y : Cnt, r = .agg ((cCnt y).map V.d) ∧ plCnt y = negW (plCnt a) ∧ okCnt y ∧ Good (cCnt y) (whCnt y) n) := by
  refine VC.of E s12 (by kernel_rfl) Try.func12 (by rfl) (by kernel_rfl) (by simp [Try.f12]) (by simp [Try.f12]) s12_ok fun B => ?_
  simp [Try.f12, s12_5, cCnt, cS, cI]
  refine call_some (w_impl_copyCounted a ha hb hb2 hb3) rfl (by simp) fun n1 hs1 r1 hn1 hm1 hp1 hr1 => ?_
  obtain ⟨y, rfl, p1, k1, G1⟩ := hp1
  simp at hn1
  have hpl : y.cs.xs = a.cs.xs := by
    have := congrArg (fun c : PCnt => c.cs) p1
    simpa [plCnt, plS] using this
  have hlen : y.cs.xs.length = a.cs.xs.length := by rw [hpl]
  obtain ⟨ar, rows, ⟨id, T, cs⟩⟩ := y
  simp only at hpl hlen
  have hnd := G1.nd
  simp only [cCnt, idsL_app, idsL_cS] at hnd
  simp [cCnt, cS, cI, dSl]
  refine loop_rule (X := Nat) (fun i => i ≤ cs.length) (fun i => [(3, .ptr 3 0 0), (2, .ptr 2 0 0), (9, .d (.int .i64 cs.length)), (10, .d (.int .i64 i))])
    (fun i => [(2, some (.box [.d (.int .i64 0), .d (.sl none none []), .d (.sl none none [])])), (3, some (.box [.d (.int .i64 ar), .d (dSl (cS cI) rows), .d (.sl id T ((negAt cs i).map cI))]))]) (fun i => cs.length - i) 0 (by simp) (by simp) (by simp [dSl]) ?_
  intro i hs t m hi hh
  by_cases hlt : i < cs.length
  · obtain ⟨g, hg, T', hT⟩ := (Sl.wh.id (s := (⟨id, T, cs⟩ : Sl Int)) G1.wh.2.2.1 hlt)
    simp only at hg hT
    subst hg hT
    have hwi := wr1 (i := i) (by omega)
    have hgB : B ≤ g := by
      have := G1.lo g (by simp only [cCnt, idsL_app, idsL_cS, List.mem_append]; exact .inr (mem_slids (s := (⟨some g, some T', cs⟩ : Sl Int)) rfl))
      omega
    have hgr : g ∉ (dSl (cS cI) rows).ids := fun h => nd_disj hnd g (List.mem_append_right _ h) (mem_slids (s := (⟨some g, some T', cs⟩ : Sl Int)) rfl)
    simp [cI, hlt, hwi, negAt_get hlt, s12_5, ]
    have e1 : (List.map cI (negAt cs i)).set i [D.int .i64 (IntKind.i64.wrap (-cs[i]))] = List.map cI (negAt cs (i + 1)) := by
      rw [← negAt_succ hlt, ← set_map]; rfl
    have e2 : ∀ d, reV (one g d) (.d (dSl (cS cI) rows)) = .d (dSl (cS cI) rows) := fun d => reV_id _ fun j hj => one_out fun e => hgr (e ▸ hj)
    refine ⟨hgB, back (i + 1) (by omega) (by omega) rfl (by simp <;> omega) (by simp) ?_⟩
    simp [-List.map_set, negAt_at hlt, e1, e2]
  · have hn : i = cs.length := by omega
    subst hn
    simp
    refine ⟨⟨ar, rows, ⟨id, T, cs.map neg64⟩⟩, ?_⟩
    refine ⟨by simp [negAt_all, cS, cI, dSl, cCnt], ?_, ⟨trivial, k1.2.1, ⟨by simpa using k1.2.2.1, fun _ _ => trivial⟩⟩, ?_⟩
    · have q1 := congrArg PCnt.ar p1
      have q2 := congrArg PCnt.rows p1
      simp only [plCnt] at q1 q2
      simp only [plCnt, negW]
      rw [q1, q2]
      simp [plS, hpl]
    · have e0 : ∀ l : List Int, (dSl cI (⟨id, T, l⟩ : Sl Int)).ids = id.toList := fun l => by simp [dSl, D.ids]
      have e : idsL (cCnt ⟨ar, rows, ⟨id, T, cs.map neg64⟩⟩) = idsL (cCnt ⟨ar, rows, ⟨id, T, cs⟩⟩) := by simp only [cCnt, idsL_app, idsL_cS, e0]
      show Good (cCnt ⟨ar, rows, ⟨id, T, cs.map neg64⟩⟩) (whCnt ⟨ar, rows, ⟨id, T, cs.map neg64⟩⟩) B
      exact ⟨by rw [e]; exact G1.nd, fun g hg => by rw [e] at hg; have := G1.lo g hg; omega, G1.wh.1, G1.wh.2.1, G1.wh.2.2.1.of (by simp), fun _ _ => trivial⟩
end

end Go.Proofs.Ytimjeofhffkajaa

namespace Go.Proofs.Ytimjeofhffkajaa
open Go.Vs Go.Proofs Go
set_option maxRecDepth 100000
set_option maxHeartbeats 1000000

section
attribute [local simp] plI_id plStr_id map_plI map_plStr pS cP cI cStr cU8 cB eReln eCnt
theorem w_impl_EqualCounted (a b : PCnt) : VC Try.prog 15 [.agg ((eCnt a).map V.d), .agg ((eCnt b).map V.d)] (fun _ r => r = .d (.bool (decide (a = b)))) := by
  refine VC.ofL EP s15 (by kernel_rfl) Try.func15 (by rfl) (by kernel_rfl) (by simp [Try.f15]) (by simp [Try.f15]) s15_ok fun B hl => ?_
  obtain ⟨aa, ar, ac⟩ := a
  obtain ⟨ba, br, bc⟩ := b
  by_cases h : aa = ba
  case neg => simp [Try.f15, h]
  subst h
  simp [Try.f15]
  refine call_f (w_impl_sameRows ar br) (by simp) rfl fun hs1 hh1 => ?_
  simp at hh1
  by_cases h2 : ar = br
  case neg => simp [h2]
  subst h2
  simp
  refine call_f (w_impl_sameInts ac bc) (by simp) rfl fun hs1 hh1 => ?_
  simp
theorem w_spec_EqualCounted (a b : PCnt) : VC Try.prog 9 [.agg ((eCnt a).map V.d), .agg ((eCnt b).map V.d)] (fun _ r => r = .d (.bool (decide (a = b)))) := by
  refine VC.ofL EP s9 (by kernel_rfl) Try.func9 (by rfl) (by kernel_rfl) (by simp [Try.f9]) (by simp [Try.f9]) s9_ok fun B hl => ?_
  obtain ⟨aa, ar, ac⟩ := a
  obtain ⟨ba, br, bc⟩ := b
  by_cases h : aa = ba
  case neg => simp [Try.f9, h]
  subst h
  simp [Try.f9]
  refine call_f (w_spec_EqualRelations ⟨0, ar⟩ ⟨0, br⟩) (by simp) rfl fun hs1 hh1 => ?_
  simp at hh1
  by_cases h2 : ar = br
  case neg => simp [h2]
  subst h2
  simp
  refine call_f (w_spec_CompareRows ac bc) (by simp) rfl fun hs1 hh1 => ?_
  simp
  have := cmpL_zero ac bc
  by_cases h3 : ac = bc <;> simp [h3, this, cmpL_self]
theorem w_laws_big (b : Sl Int) : VC Try.prog 5 [.d (dSl cW b)] (fun _ r => r = .d (.bool (decide (1048576 < (b.xs.length : Int))))) := by
  refine VC.of E s5 (by kernel_rfl) Try.func5 (by rfl) (by kernel_rfl) (by simp [Try.f5]) (by simp [Try.f5]) s5_ok fun B => ?_
  simp [Try.f5, dSl]
end
theorem cnt_bd {z : PCnt} (h : cntsOk z = true) : ∀ n ∈ z.cs, -1000000 ≤ n ∧ n ≤ 1000000 := fun n hn => by
  simp only [cntsOk, Bool.and_eq_true, decide_eq_true_eq, List.all_eq_true] at h
  have := h.2 n hn
  simp only [cntOk, inR, Bool.and_eq_true, Bool.not_eq_true', beq_eq_false_iff_ne, decide_eq_true_eq] at this
  omega
theorem negW_eq {z : PCnt} (h : cntsOk z = true) : negW z = negP z := by
  have hb := cnt_bd h
  have : z.cs.map neg64 = z.cs.map fun n => -n := List.map_congr_left fun n hn => by
    have := hb n hn
    exact wrap64_of (by omega) (by omega)
  simp only [negW, negP, this]
theorem countOf_bd {z : PCnt} (h : cntsOk z = true) (y : List Int) : -1000000 ≤ countOf z y ∧ countOf z y ≤ 1000000 := by
  rw [countOf_eq h]
  have hc := cz_ok h
  by_cases hy : y ∈ z.rows
  · have e := look_all hc.srt hc.len
    have : lkC z.rows z.cs y ∈ z.cs := by
      have h2 : lkC z.rows z.cs y ∈ z.rows.map (lkC z.rows z.cs) := List.mem_map.2 ⟨y, hy, rfl⟩
      rwa [← e] at h2
    exact cnt_bd h _ this
  · rw [look_none hy]; omega

end Go.Proofs.Ytimjeofhffkajaa

namespace Go.Proofs.Ytimjeofhffkajaa
open Go.Vs Go.Proofs Go
set_option maxRecDepth 100000
set_option maxHeartbeats 1000000

section
attribute [local simp] pS dSl cP cI cW
theorem w_spec_DrawProjectCounted (b : Sl Int) (hb : b.xs.length ≤ 1048576) : VC Try.prog 16 [.d (dSl cW b)] (fun _ v => ∃ (x : Cnt) (c : Sl Int), v = .tup [.agg ((cCnt x).map V.d), .d (dSl cI c)] ∧ okCnt x ∧ okS okI c ∧ (x.rows.xs.length ≤ 2000 ∧ x.cs.xs.length ≤ 2000) ∧ c.xs.length ≤ 2000) := by
  refine VC.of E s16 (by kernel_rfl) Try.func16 (by rfl) (by kernel_rfl) (by simp [Try.f16]) (by simp [Try.f16]) s16_ok fun B => ?_
  simp [Try.f16, ]
  refine call_nt (w_spec_l1New b hb) (by simp) (by simp) fun ds n0 hs0 hn0 hm0 hp0 hl0 hi0 => ?_
  obtain ⟨c0, rfl, o0⟩ := hp0
  simp [curD, ]
  refine call_any c0 E22 (w_spec_l27Any b c0 hb o0) (by simp) (by simp [curD]) (by simp) (by simp) fun x c1 hs1 hh1 lx1 lx2 kx o1 => ?_
  obtain ⟨xa, ⟨rid, rT, rx⟩, ⟨zid, zT, zx⟩⟩ := x
  simp [cCnt, curD, cS, dSl, ]
  refine call_cur c1 E38 (w_spec_l1Below b c1 4 hb o1 (by omega)) (by simp) (by simp [curD]) (by simp) (by simp) fun r2 c2 hs2 hh2 hq2 hl2 o2 => ?_
  obtain ⟨u, rfl, u0, u1, _⟩ := hq2
  have u1 := u1 (by omega)
  obtain ⟨N, rfl⟩ : ∃ N : Nat, u = N := ⟨u.toNat, by omega⟩
  simp [cCnt, curD, cS, dSl, ]
  refine loop_rule (X := (Nat × Int) × List Int × Nat) (fun p => curO b p.1 ∧ p.2.1.length + p.2.2 ≤ 4) (fun p => [(2, .ptr 2 0 0), (4, .ptr 9 0 0), (5, .ptr 5 0 0), (6, .own 12 0 p.2.1.length), (7, .d (.int .i64 p.2.2))]) (fun p => [(2, some (.box [.d (.int .i64 0), .d (.sl none none []), .d (.sl none none [])])), (9, some (.box ((curD b p.1).map V.d))), (5, some (.box ((cCnt ⟨xa, ⟨rid, rT, rx⟩, ⟨zid, zT, zx⟩⟩).map V.d))), (12, some (.row 3 1 (p.2.1.map cI)))]) (fun p => p.2.2) (c2, [], N) ⟨o2, by simp; omega⟩ (by simp) (by simp [curD, cCnt, cS, dSl]) ?_
  rintro ⟨c3, l, k⟩ hs t m ⟨ho, hl⟩ hh
  simp only at ho hl
  cases k with
  | zero =>
    simp [cCnt, curD, cS, dSl, ]
    intro γ hs' h1 hg
    clear hg
    exact ⟨⟨xa, ⟨rid, rT, rx⟩, ⟨zid, zT, zx⟩⟩, ⟨γ 12, some (3, 1), l⟩, by simp [List.take_of_length_le], kx, ⟨by simp only [maxLen]; omega, fun _ _ => trivial⟩, ⟨lx1, lx2.1⟩, by simp only; omega⟩
  | succ k =>
    obtain ⟨u, hu⟩ : ∃ u : Nat, u = k + 1 := ⟨_, rfl⟩
    have hup : 0 < u := by omega
    have hwm : IntKind.i64.wrap ((u : Int) - 1) = k := by rw [wrap64_of (by omega) (by omega)]; omega
    have hL : LenOk 8 (l.length + 1) := ⟨by omega, by simp only [maxLen]; omega⟩
    have hxa : xa ≤ 1000 := lx2.2
    rw [← hu] at hl ⊢
    simp [hup, cCnt, curD, cS, dSl, ]
    refine call_cur c3 E38 (w_spec_l1Below b c3 (if 1 < xa then xa else 1) hb ho (by split <;> omega)) (by simp) (by simp [curD]) (by simp) (by simp) fun r4 c4 hs4 hh4 hq4 hl4 o4 => ?_
    obtain ⟨x, rfl, _⟩ := hq4
    simp [hup, hL, hwm, cCnt, curD, cS, dSl, ]
    exact back (c4, l ++ [x], k) ⟨o4, by simp; omega⟩ (by simp only; omega) rfl (by simp <;> omega) (by simp) (by simp [curD, cCnt, cS, dSl])
end

end Go.Proofs.Ytimjeofhffkajaa

namespace Go.Proofs.Ytimjeofhffkajaa
open Go.Vs Go.Proofs Go
set_option maxRecDepth 100000
set_option maxHeartbeats 1000000

theorem t_impl_RowsOfCounted (a : Cnt) (ha : okCnt a) : VC Try.prog 19 [.agg ((cCnt a).map V.d)]
   (fun n r => ∃ y : Reln, r = .tup [.agg ((cReln y).map V.d), .d (.bool (rowsOfB (plCnt a)))] ∧ plReln y = rowsOf (plCnt a) ∧ okReln y ∧ Good (cReln y) (whReln y) n) := by
  refine VC.of E s19 (by kernel_rfl) Try.func19 (by rfl) (by kernel_rfl) (by simp [Try.f19]) (by simp [Try.f19]) s19_ok fun B => ?_
  simp [Try.f19, s19_9, cCnt, cS, cI]
  refine call_f (w_impl_IsValidCounted (plCnt a)) (by simp [eCnt, er_SI, er_I]) rfl fun hs0 hh0 => ?_
  simp at hh0
  cases h1 : cntsOk (plCnt a)
  · have hB0 : rowsOfB (plCnt a) = false := by simp [rowsOfB, h1]
    simp [hB0]
    exact ⟨⟨0, nilS⟩, by simp [cReln, nilS, cS, dSl], by simp only [rowsOf, hB0]; rfl, ⟨trivial, ok_nilS⟩, good_Reln0 B⟩
  have hlen := rowsOk_len (cntsOk_rows h1)
  have hrow := rowsOk_row (cntsOk_rows h1)
  have hcl := cntsOk_len h1
  have hl1 : a.rows.xs.length ≤ 4000 := by simpa [plS] using hlen
  have hl3 : a.cs.xs.length ≤ 4000 := by have : a.rows.xs.length = a.cs.xs.length := by simpa [plS] using hcl
                                         omega
  have hl2 : ∀ r ∈ a.rows.xs, r.xs.length ≤ 4294967296 := fun r hr => by
    have := hrow (plS plI r) (List.mem_map_of_mem hr)
    simp [plS] at this; omega
  simp [s19_9, dSl]
  refine loop_rule (X := Nat) (fun i => i ≤ a.cs.xs.length ∧ AllTo (fun n => decide (0 ≤ n)) a.cs.xs i) (fun i => [(1, .ptr 1 0 0), (2, .ptr 2 0 0), (11, .d (.sl a.cs.id a.cs.T (a.cs.xs.map cI))), (12, .d (.int .i64 a.cs.xs.length)), (13, .d (.int .i64 i))])
    (fun i => [(1, some (.box [.d (.int .i64 a.ar), .d (dSl (cS cI) a.rows), .d (.sl a.cs.id a.cs.T (a.cs.xs.map cI))])), (2, some (.box [.d (.int .i64 0), .d (.sl none none [])]))]) (fun i => a.cs.xs.length - i) 0 ⟨by simp, allTo_zero⟩ (by simp) (by simp [dSl]) ?_
  intro i hs t m hi hh
  have hBv : (plCnt a).cs = a.cs.xs := by simp [plS]
  by_cases hlt : i < a.cs.xs.length
  · have hwi := wr1 (i := i) (by omega)
    by_cases h0 : a.cs.xs[i] < 0
    · have hbad := all_bad (p := fun n : Int => decide (0 ≤ n)) hlt (by simpa using h0)
      have hB0 : rowsOfB (plCnt a) = false := by simp only [rowsOfB, hBv, hbad]; simp
      simp [hlt, h0, hB0]
      exact ⟨⟨0, nilS⟩, by simp [cReln, nilS, cS, dSl], by simp only [rowsOf, hB0]; rfl, ⟨trivial, ok_nilS⟩, good_Reln0 B⟩
    · simp [hlt, h0, hwi]
      exact back (i + 1) ⟨by omega, allTo_step hi.2 hlt (by simpa using h0)⟩ (by omega) rfl (by simp <;> omega) (by simp) (by simp)
  · have hd := allTo_done hi.2 (by omega)
    have hB1 : rowsOfB (plCnt a) = true := by simp only [rowsOfB, hBv, hd, h1]; rfl
    simp [hlt, s19_9, ]
    refine call_some (w_impl_copyRows a.rows ha.2.1 (by omega) hl2) rfl (by simp) fun n1 hs1 r1 hn1 hm1 hp1 hr1 => ?_
    obtain ⟨y1, rfl, p1, k1, G1⟩ := hp1
    simp at hn1
    simp [cS, cI, dSl, hB1, s19_9, ]
    refine ⟨⟨a.ar, y1⟩, by simp [cReln, cS, dSl], ?_, ⟨trivial, k1⟩, good_Reln G1 (by omega)⟩
    simp only [rowsOf, hB1, if_true, plReln, p1]; rfl

end Go.Proofs.Ytimjeofhffkajaa

namespace Go.Proofs.Ytimjeofhffkajaa
open Go.Vs Go.Proofs Go
set_option maxRecDepth 100000
set_option maxHeartbeats 1000000

theorem w_impl_columnsFit (ar : Int) (cols : List Int) : VC Try.prog 39 [.d (.int .i64 ar), .d (pS cI cols)] (fun _ v => v = .d (.bool (colsOk ar cols))) := by
  refine VC.ofL EP s39 (by kernel_rfl) Try.func39 (by rfl) (by kernel_rfl) (by simp [Try.f39]) (by simp [Try.f39]) s39_ok fun B hl => ?_
  by_cases h5 : cols.length ≤ 5
  case neg => simp [Try.f39, colsOk, h5, show (5 : Int) < cols.length by omega]
  simp [Try.f39, show ¬ (5 : Int) < cols.length by omega]
  refine loop_rule (X := Nat) (fun i => i ≤ cols.length ∧ AllTo (fun c => inR c 0 (IntKind.i64.wrap (ar - 1))) cols i) (fun i => [(0, .d (.int .i64 ar)), (10, .d (.pl (cols.map cI))), (11, .d (.int .i64 cols.length)), (12, .d (.int .i64 i))])
    (fun _ => []) (fun i => cols.length - i) 0 ⟨by simp, allTo_zero⟩ (by simp) (by simp) ?_
  intro i hs t m hi hh
  by_cases hlt : i < cols.length
  · have hwi := wr1 (i := i) (by omega)
    simp [hlt, cI, ]
    refine call_f (w_impl_within cols[i] 0 (IntKind.i64.wrap (ar - 1))) (by simp) rfl fun hs1 hh1 => ?_
    simp at hh1
    cases hv : inR cols[i] 0 (IntKind.i64.wrap (ar - 1))
    · have hbad := all_bad (p := fun c => inR c 0 (IntKind.i64.wrap (ar - 1))) hlt hv
      simp [colsOk, hbad]
    · simp [hwi]
      exact back (i + 1) ⟨by omega, allTo_step hi.2 hlt hv⟩ (by omega) rfl (by simp <;> omega) (by simp) (by simp)
  have hd := allTo_done hi.2 (by omega)
  simp [hlt, colsOk, hd, h5]
theorem t_impl_pick (row cols : Ints) (hb : cols.xs.length ≤ 4294967296) (hc : ∀ c ∈ cols.xs, 0 ≤ c ∧ c < row.xs.length) : VC Try.prog 40 [.d (dSl cI row), .d (dSl cI cols)]
   (fun n r => ∃ y : Ints, r = .d (dSl cI y) ∧ y.xs = pickR cols.xs row.xs ∧ okS okI y ∧ Good (cS cI y) (whS whI y) n) := by
  refine VC.of E s40 (by kernel_rfl) Try.func40 (by rfl) (by kernel_rfl) (by simp [Try.f40]) (by simp [Try.f40]) s40_ok fun B => ?_
  simp [Try.f40, dSl]
  refine loop_rule (X := Nat) (fun i => i ≤ cols.xs.length) (fun i => [(0, .d (.sl row.id row.T (row.xs.map cI))), (5, .own 8 0 i), (9, .d (.sl cols.id cols.T (cols.xs.map cI))), (10, .d (.int .i64 cols.xs.length)), (11, .d (.int .i64 i))])
    (fun i => [(8, some (.row 3 1 ((pickR (cols.xs.take i) row.xs).map cI)))]) (fun i => cols.xs.length - i) 0 (by simp) (by simp) (by simp [pickR]) ?_
  intro i hs t m hi hh
  by_cases hlt : i < cols.xs.length
  · have hwi := wr1 (i := i) (by omega)
    have h1 := hc _ (List.getElem_mem hlt)
    have hst := pickR_step hlt hc
    obtain ⟨k, hk⟩ : ∃ k : Nat, cols.xs[i] = (k : Int) := ⟨cols.xs[i].toNat, by omega⟩
    have hkl : k < row.xs.length := by omega
    have hL : LenOk 8 (i + 1) := ⟨by omega, by simp only [maxLen]; omega⟩
    have hpl : (pickR (cols.xs.take i) row.xs).length = i := by rw [pickR_len, List.length_take]; omega
    simp only [hk, Int.toNat_natCast] at hst
    simp [hlt, hk, hkl, hL, hwi, hpl, cI, ]
    exact back (i + 1) (by omega) (by omega) rfl (by simp <;> omega) (by simp) (by simp [hst, cI])
  · have hn : i = cols.xs.length := by omega
    subst hn
    simp [List.take_of_length_le, pickR_len]
    intro γ hs' h2 hg
    obtain ⟨q1, q2⟩ := gam_at hg (k := 8) (T := 3) (sz := 1) (es := (pickR cols.xs row.xs).map cI) (by simp)
    have r1 := gam_row hg (k := 8) (T := 3) (sz := 1) (es := (pickR cols.xs row.xs).map cI) (by simp)
    clear hg
    refine ⟨⟨γ 8, some (3, 1), pickR cols.xs row.xs⟩, by simp [List.take_of_length_le, pickR_len], rfl, ⟨by simp only [maxLen, pickR_len]; omega, fun _ _ => trivial⟩, good_row (fun g hg => (q1 g hg).1) (by simpa using q2) r1 ⟨by simp, by simp⟩ (by simp [whI])⟩

end Go.Proofs.Ytimjeofhffkajaa

namespace Go.Proofs.Ytimjeofhffkajaa
open Go.Vs Go.Proofs Go
set_option maxRecDepth 100000
set_option maxHeartbeats 1000000

theorem t_impl_ProjectCounted0 (a : Cnt) (c : Ints) (ha : okCnt a) (hc : okS okI c) : VC Try.prog 17 [.agg ((cCnt a).map V.d), .d (dSl cI c)]
   (fun n r => ∃ y : Cnt, r = .tup [.agg ((cCnt y).map V.d), .d (.bool (projB (plCnt a) c.xs))] ∧ plCnt y = projP (plCnt a) c.xs ∧ okCnt y ∧ Good (cCnt y) (whCnt y) n) := by
  refine VC.ofB E s17 (by kernel_rfl) Try.func17 (by rfl) (by kernel_rfl) (by simp [Try.f17]) (by simp [Try.f17]) s17_ok fun B hB => ?_
  have haB : ∀ g ∈ idsL (cCnt a), g < B := fun g hg => hB g (by simp only [idsVL, V.ids, idsVL_map_d, List.mem_append]; simp [hg])
  have hcB : ∀ g ∈ (dSl cI c).ids, g < B := fun g hg => hB g (by simp only [idsVL, V.ids, List.mem_append]; simp [hg])
  have hno : ∀ hB0 : projB (plCnt a) c.xs = false, ∃ y : Cnt, V.tup [.agg ((cCnt ⟨0, nilS, nilS⟩).map V.d), .d (.bool false)] = .tup [.agg ((cCnt y).map V.d), .d (.bool (projB (plCnt a) c.xs))] ∧ plCnt y = projP (plCnt a) c.xs ∧ okCnt y ∧ Good (cCnt y) (whCnt y) B := fun hB0 =>
    ⟨⟨0, nilS, nilS⟩, by rw [hB0], by simp only [projP, hB0]; rfl, ⟨trivial, ok_nilS, ok_nilS⟩, good_Cnt0 B⟩
  simp only [cCnt, cS, cI, nilS, dSl] at hno
  simp at hno
  simp [Try.f17, s17_7, cCnt, cS, cI, dSl]
  refine call_f (w_impl_IsValidCounted (plCnt a)) (by simp [eCnt, er_SI, er_I, plCnt, pS, plS, erLL_map er_cI, erLL_map (er_cS er_cI), map_plI]) rfl fun hs0 hh0 => ?_
  simp at hh0
  cases h1 : cntsOk (plCnt a)
  · have hB0 : projB (plCnt a) c.xs = false := by simp [projB, h1]
    simp
    exact hno hB0
  simp [dSl]
  refine call_f (w_impl_columnsFit a.ar c.xs) (by simp [erLL_map er_cI, pS]) rfl fun hs1 hh1 => ?_
  simp at hh1
  cases h2 : colsOk a.ar c.xs
  · have hB0 : projB (plCnt a) c.xs = false := by simp [projB, plCnt, plI, h2]
    simp
    exact hno hB0
  have hlen := rowsOk_len (cntsOk_rows h1)
  have hrow := rowsOk_row (cntsOk_rows h1)
  have hcl := cntsOk_len h1
  have hcsa := cntsOk_cs h1
  have har := rowsOk_inR (cntsOk_rows h1)
  have h2' := h2
  simp only [colsOk, Bool.and_eq_true, decide_eq_true_eq] at h2'
  obtain ⟨hc5, hd⟩ := h2'
  simp only [inR, Bool.and_eq_true, decide_eq_true_eq] at har
  have hrl : (plCnt a).rows.length = a.rows.xs.length := by simp [plCnt, plS]
  have hcs : (plCnt a).cs = a.cs.xs := by simp [plCnt, plS, map_plI]
  have hcl2 : a.cs.xs.length = a.rows.xs.length := by rw [← hrl, ← hcs]; omega
  have hfit : ∀ r ∈ a.rows.xs, ∀ x ∈ c.xs, 0 ≤ x ∧ x < r.xs.length := fun r hrm x hx => by
    have h2 := (rowsOk_mem (cntsOk_rows h1) (List.mem_map_of_mem (f := plS plI) hrm)).1
    have h3 := (List.all_eq_true.1 hd) x hx
    have har' : 0 ≤ a.ar ∧ a.ar ≤ 5 := har
    rw [wrap64_of (by omega) (by omega)] at h3
    simp only [inR, Bool.and_eq_true, decide_eq_true_eq] at h3
    simp only [plS, List.length_map, plCnt, plI] at h2
    omega
  obtain ⟨b, hb⟩ : ∃ b : PCnt, b = ⟨c.xs.length, (plCnt a).rows.map (pickR c.xs), (plCnt a).cs⟩ := ⟨_, rfl⟩
  have hbl : b.rows.length = a.rows.xs.length := by rw [hb]; simp [plCnt, plS]
  have hbc : b.cs = a.cs.xs := by rw [hb]; exact hcs
  have hba : ∀ i (h : i < a.rows.xs.length), b.rows[i]'(by omega) = pickR c.xs a.rows.xs[i].xs := fun i h => by
    subst hb
    simp [plCnt, plS, map_plI]
  simp [s17_7, dSl]
  refine loop_ruleL (X := Nat × Cnt) (TalI ⟨c.xs.length, [], []⟩ b B) (fun p => [(1, .d (.sl c.id c.T (c.xs.map cI))), (2, .ptr 2 0 0), (4, .ptr 4 0 0), (6, .ptr 6 0 0), (25, .d (.sl a.rows.id a.rows.T (a.rows.xs.map (cS cI)))), (26, .d (.int .i64 a.rows.xs.length)), (27, .d (.int .i64 p.1))])
    (fun p => [(2, some (.box [.d (.int .i64 a.ar), .d (.sl a.rows.id a.rows.T (a.rows.xs.map (cS cI))), .d (.sl a.cs.id a.cs.T (a.cs.xs.map cI))])), (4, some (.box [.d (.int .i64 0), .d (.sl none none []), .d (.sl none none [])])),
      (6, some (.box [.d (.int .i64 p.2.ar), .d (.sl p.2.rows.id p.2.rows.T (p.2.rows.xs.map (cS cI))), .d (.sl p.2.cs.id p.2.cs.T (p.2.cs.xs.map cI))]))]) (fun p => a.rows.xs.length - p.1) ?_ ?_
  · refine Lead.of ⟨(0, ⟨c.xs.length, nilS, nilS⟩), ⟨by simp, rfl, rfl, rfl, ⟨trivial, ok_nilS, ok_nilS⟩, ⟨by simp [cCnt, nilS, cS, cI, dSl, idsL, idsLL, D.ids], by simp [cCnt, nilS, cS, cI, dSl, idsL, idsLL, D.ids], (good_Cnt0 B).wh⟩, by simp [cCnt, nilS, cS, cI, dSl, idsL, idsLL, D.ids]⟩, rfl, rfl, Nat.le_refl _, by simp [dSl], by simp [nilS, dSl]⟩
  rintro ⟨i, y⟩ hs t m hI hh
  have hi := hI.le
  simp only [hbl] at hi
  obtain ⟨b1, b2, b3⟩ := hI.bd .nil rfl (by rw [hbc, hbl]; omega) (by simp) (by rw [hbl]; omega) (by simp) (by rw [hbc]; exact hcs ▸ hcsa)
  simp only at b1 b2 b3
  by_cases hlt : i < a.rows.xs.length
  · have hltc : i < a.cs.xs.length := by omega
    have hwi := wr1 (i := i) (by omega)
    have hbr : ∀ g ∈ (dSl (cS cI) a.rows).ids, g < B := fun g hg => haB g (by rw [cCnt, idsL_app, idsL_app, idsL_cS, idsL_cS]; simp [hg])
    have hbk : ∀ g ∈ (dSl cI a.cs).ids, g < B := fun g hg => haB g (by rw [cCnt, idsL_app, idsL_app, idsL_cS, idsL_cS]; simp [hg])
    have hyc : ∀ g ∈ (dSl cI y.cs).ids, B ≤ g := fun g hg => hI.good.lo g (by rw [cCnt, idsL_app, idsL_app, idsL_cS, idsL_cS]; simp [hg])
    have hcb := hcsa a.cs.xs[i] (by rw [hcs]; exact List.getElem_mem hltc)
    obtain ⟨W, hW⟩ : ∃ W, W = (dSl cI y.cs).ids := ⟨_, rfl⟩
    rw [← hW] at hyc
    have eW : ∀ (ws : List D) g, g < B → phi W ws g = none := fun ws g hg => by
      simp only [phi]; rw [if_neg]; intro h; have := hyc g h; omega
    have e1 : ∀ ws, reV (phi W ws) (.d (.sl a.rows.id a.rows.T (a.rows.xs.map (cS cI)))) = .d (.sl a.rows.id a.rows.T (a.rows.xs.map (cS cI))) := fun ws => reV_id (.d (dSl (cS cI) a.rows)) fun g hg => eW ws g (hbr g hg)
    have e2 : ∀ ws, reV (phi W ws) (.d (.sl a.cs.id a.cs.T (a.cs.xs.map cI))) = .d (.sl a.cs.id a.cs.T (a.cs.xs.map cI)) := fun ws => reV_id (.d (dSl cI a.cs)) fun g hg => eW ws g (hbk g hg)
    have e3 : ∀ ws, reV (phi W ws) (.d (.sl c.id c.T (c.xs.map cI))) = .d (.sl c.id c.T (c.xs.map cI)) := fun ws => reV_id (.d (dSl cI c)) fun g hg => eW ws g (hcB g hg)
    refine anyQ2 fun Q => ?_
    simp [hlt, hltc, cS, cI, dSl, s17_7, ]
    refine call_some (t_impl_pick a.rows.xs[i] c (by omega) (hfit _ (List.getElem_mem hlt))) (by simp [dSl]) (by simp) fun n2 hs2 r2 hn2 hm2 hp2 hr2 => ?_
    obtain ⟨w, rfl, pw, kw, Gw⟩ := hp2
    simp at hn2
    have hT := t_impl_tally y w a.cs.xs[i] hI.ok kw hI.good.wh.2.2 hI.good.nd (by omega) b2 (by
      rw [pw, pickR_len]; omega) hcb b3
    rw [← hW] at hT
    simp [hlt, hltc, cS, cI, dSl, s17_7, ]
    refine call_b (k := 6) (E26) (by simp [dSl]) (by simp [cCnt, cS, cI, dSl]) (by simp) (by simp [cCnt, cS, cI, dSl]) (by simp) (by simp [cCnt, cS, cI, dSl]) (fun g hg => .inl (hyc g hg)) hT fun n3 hs3 r3 cs3 ws3 hn3 hm3 hp3 hr3 hv3 hw3 => ?_
    obtain ⟨rfl, z, rfl, pz, kz, _, Gz⟩ := hp3
    simp at hn3
    have u3 : ∀ g ∈ idsL (cCnt z), g < hs3 := fun g hg => hv3 g (by rw [idsVL_map_d]; exact hg)
    simp [cCnt, cS, cI, dSl, hwi, e1, e2, e3, s17_7, ]
    refine back2 (i + 1, z) (hI.step (m := n3) (by rw [hbc, hbl]; omega) (by omega) (by rw [hbc]; omega) ?_ kz (by omega) (by omega) Gz u3) (by simp only; omega) rfl (by simp <;> omega) (by simp [e1, e3]) (by simp [e1, e2])
    rw [pz, hba i hlt, pw]
    simp [hbc]
  · obtain ⟨f1, f2⟩ := hI.fin (by omega) .nil rfl (by rw [hbc, hbl]; omega)
    have har : y.ar = (c.xs.length : Int) := hI.ar
    have Gr : Good (cS (cS cI) y.rows) (whS (whS whI) y.rows) B := by
      have h1 := hI.good.nd
      rw [cCnt, idsL_app, idsL_app] at h1
      exact ⟨(List.nodup_append.1 (List.nodup_append.1 h1).1).2.1, fun g hg => hI.good.lo g (by rw [cCnt, idsL_app, idsL_app]; simp [hg]), hI.good.wh.2.1⟩
    simp [hlt, cS, cI, dSl, s17_7, ]
    refine call_some (t_impl_settled y hI.ok (by omega) b2) (by simp [cCnt, cS, cI, dSl]) (by simp) fun n4 hs4 r4 hn4 hm4 hp4 hr4 => ?_
    obtain ⟨z, rfl, pz, kz, Gz⟩ := hp4
    simp at hn4
    clear hr4
    have pz' : plCnt z = sumOf c.xs.length b.rows b.cs := by
      rw [pz, f1, f2, sumOf, har]; rfl
    have hsl : (srtU b.rows).length ≤ 4000 := by have := srtU_len b.rows; omega
    have hprj : projB (plCnt a) c.xs = cntsOk (plCnt z) := by
      have h2' : colsOk (plCnt a).ar c.xs = true := h2
      rw [pz', projB, h1, h2', sumB]
      rw [hb] at hsl ⊢
      simp only [Bool.true_and, hsl, decide_true]
    simp [cCnt, cS, cI, dSl, s17_7, ]
    refine call_f (w_impl_IsValidCounted (plCnt z)) (by simp [eCnt, er_SI, er_I, plCnt, pS, plS, erLL_map er_cI, erLL_map (er_cS er_cI), map_plI]) rfl fun hs5 hh5 => ?_
    simp at hh5
    cases h5 : cntsOk (plCnt z)
    · have hB0 : projB (plCnt a) c.xs = false := by rw [hprj, h5]
      simp
      exact hno hB0
    have hB1 : projB (plCnt a) c.xs = true := by rw [hprj, h5]
    simp
    refine ⟨z, by simp [cCnt, cS, cI, dSl, hB1], by rw [pz', projP, hB1, hb]; rfl, kz, Gz B (by omega) Gr⟩
theorem t_impl_ProjectCounted (a : Cnt) (c : Ints) (ha : okCnt a) (hc : okS okI c) : VC Try.prog 17 [.agg ((cCnt a).map V.d), .d (dSl cI c)]
   (fun n r => ∃ y : Cnt, r = .tup [.agg ((cCnt y).map V.d), .d (.bool (projB (plCnt a) (plS plI c)))] ∧ plCnt y = projP (plCnt a) (plS plI c) ∧ okCnt y ∧ Good (cCnt y) (whCnt y) n) := by
  have e : plS plI c = c.xs := by simp [plS, map_plI]
  rw [e]; exact t_impl_ProjectCounted0 a c ha hc

end Go.Proofs.Ytimjeofhffkajaa

namespace Go.Proofs.Ytimjeofhffkajaa
open Go.Vs Go.Proofs Go
set_option maxRecDepth 100000
set_option maxHeartbeats 1000000

theorem w_spec_l5Cols (row cols : List Int) (hb : cols.length ≤ 4294967296) (hc : ∀ c ∈ cols, 0 ≤ c ∧ c < row.length) : VC Try.prog 41 [.d (pS cI row), .d (pS cI cols)] (fun _ v => v = .d (pS cI (pickR cols row))) := by
  refine VC.ofL EP s41 (by kernel_rfl) Try.func41 (by rfl) (by kernel_rfl) (by simp [Try.f41]) (by simp [Try.f41]) s41_ok fun B hl => ?_
  simp [Try.f41, ]
  refine loop_rule (X := Nat) (fun i => i ≤ cols.length) (fun i => [(0, .d (.pl (row.map cI))), (1, .d (.pl (cols.map cI))), (5, .own 7 0 i), (6, .d (.int .i64 i))])
    (fun i => [(7, some (.row 3 1 ((pickR (cols.take i) row).map cI)))]) (fun i => cols.length - i) 0 (by simp) (by simp) (by simp [pickR]) ?_
  intro i hs t m hi hh
  by_cases hlt : i < cols.length
  · have hwi := wr1 (i := i) (by omega)
    have h1 := hc _ (List.getElem_mem hlt)
    have hst := pickR_step hlt hc
    obtain ⟨k, hk⟩ : ∃ k : Nat, cols[i] = (k : Int) := ⟨cols[i].toNat, by omega⟩
    have hkl : k < row.length := by omega
    have hL : LenOk 8 (i + 1) := ⟨by omega, by simp only [maxLen]; omega⟩
    have hpl : (pickR (cols.take i) row).length = i := by rw [pickR_len, List.length_take]; omega
    simp only [hk, Int.toNat_natCast] at hst
    simp [hlt, hk, hkl, hL, hwi, hpl, cI, ]
    exact back (i + 1) (by omega) (by omega) rfl (by simp <;> omega) (by simp) (by simp [hst, cI])
  · have hn : i = cols.length := by omega
    subst hn
    simp [List.take_of_length_le, pickR_len]
theorem w_spec_ProjectCounted (z : PCnt) (cols : List Int) (hb : cols.length ≤ 4294967296) : VC Try.prog 18 [.agg ((eCnt z).map .d), .d (pS cI cols)] (fun _ v => v = .tup [.agg ((eCnt (projP z cols)).map .d), .d (.bool (projB z cols))]) := by
  refine VC.ofL EP s18 (by kernel_rfl) Try.func18 (by rfl) (by kernel_rfl) (by simp [Try.f18]) (by simp [Try.f18]) s18_ok fun B hl => ?_
  simp [Try.f18, s18_4, eCnt, s18_4, ]
  refine loop_rule (X := Nat) (fun i => i ≤ cols.length ∧ AllTo (fun c => inR c 0 (IntKind.i64.wrap (z.ar - 1))) cols i) (fun i => [(1, .d (.pl (cols.map cI))), (2, .ptr 2 0 0), (4, .ptr 4 0 0), (6, .d (.int .i64 i))])
    (fun i => [(2, some (.box [.d (.int .i64 z.ar), .d (.pl (z.rows.map (cP cI))), .d (.pl (z.cs.map cI))])), (4, some (.box [.d (.int .i64 0), .d (.sl none none []), .d (.sl none none [])]))]) (fun i => cols.length - i) 0 ⟨by simp, allTo_zero⟩ (by simp) (by simp) ?_
  intro i hs t m hi hh
  by_cases hlt : i < cols.length
  · have hwi := wr1 (i := i) (by omega)
    simp [hlt, cI, s18_4, ]
    refine call_f (w_spec_l1In cols[i] 0 (IntKind.i64.wrap (z.ar - 1))) (by simp) rfl fun hs1 hh1 => ?_
    simp at hh1
    cases hv : inR cols[i] 0 (IntKind.i64.wrap (z.ar - 1))
    · have hbad := all_bad (p := fun c => inR c 0 (IntKind.i64.wrap (z.ar - 1))) hlt hv
      simp [projP, projB, colsOk, hbad, eCnt]
    · simp [hwi]
      exact back (i + 1) ⟨by omega, allTo_step hi.2 hlt hv⟩ (by omega) rfl (by simp <;> omega) (by simp) (by simp)
  have hd := allTo_done hi.2 (by omega)
  simp [hlt, s18_4, ]
  refine call_f (w_spec_IsValidCounted z) (by simp [eCnt]) rfl fun hs1 hh1 => ?_
  simp at hh1
  cases h1 : cntsOk z
  · simp [projP, projB, h1, eCnt]
  by_cases h5 : cols.length ≤ 5
  case neg => simp [projP, projB, colsOk, h5, show (5 : Int) < cols.length by omega, eCnt]
  have hr := cntsOk_rows h1
  have hrl := rowsOk_len hr
  have hcl := cntsOk_len h1
  have hco : colsOk z.ar cols = true := by simp only [colsOk, hd, h5]; rfl
  have har := rowsOk_inR hr
  simp only [inR, Bool.and_eq_true, decide_eq_true_eq] at har
  have hcs : ∀ r ∈ z.rows, ∀ c ∈ cols, 0 ≤ c ∧ c < r.length := fun r hrm c hc => by
    have h2 := (rowsOk_mem hr hrm).1
    have h3 := (List.all_eq_true.1 hd) c hc
    rw [wrap64_of (by omega) (by omega)] at h3
    simp only [inR, Bool.and_eq_true, decide_eq_true_eq] at h3
    omega
  simp [show ¬ (5 : Int) < cols.length by omega, s18_4, ]
  refine loop_rule (X := Nat) (fun i => i ≤ z.rows.length) (fun i => [(1, .d (.pl (cols.map cI))), (2, .ptr 2 0 0), (4, .ptr 4 0 0), (7, .own 36 0 i), (8, .d (.int .i64 i))])
    (fun i => [(2, some (.box [.d (.int .i64 z.ar), .d (.pl (z.rows.map (cP cI))), .d (.pl (z.cs.map cI))])), (4, some (.box [.d (.int .i64 0), .d (.sl none none []), .d (.sl none none [])])), (36, some (.row 25 1 (((z.rows.take i).map (pickR cols)).map (cP cI))))]) (fun i => z.rows.length - i) 0 (by simp) (by simp) (by simp) ?_
  intro k hs2 t2 m2 hk hh2
  by_cases hlt2 : k < z.rows.length
  · have hwi := wr1 (i := k) (by omega)
    have hL : LenOk 24 (k + 1) := ⟨by omega, by simp only [maxLen]; omega⟩
    refine anyQ fun Q => ?_
    simp [hlt2, cP, s18_4, ]
    refine call_p (w_spec_l5Cols z.rows[k] cols hb (hcs _ (List.getElem_mem hlt2))) (by simp) fun hs3 hh3 _ => ?_
    simp at hh3
    simp [hL, hwi, show min k z.rows.length = k by omega, s18_4, ]
    refine back (k + 1) (by omega) (by omega) rfl (by simp <;> omega) (by simp) ?_
    rw [List.take_succ_eq_append_getElem (by simpa using hlt2)]; simp [cP]
  · have hn : k = z.rows.length := by omega
    subst hn
    simp [s18_4, ]
    have hC := w_spec_l27Sum cols.length (z.rows.map (pickR cols)) z.cs (by simp [inR]; omega) (fun x hx => by
      obtain ⟨r, hrm, rfl⟩ := List.mem_map.1 hx
      exact ⟨by rw [pickR_len], pickR_ok (rowsOk_mem hr hrm).2 (hcs r hrm)⟩) (by simp; omega) (by simp; omega) (cntsOk_cs h1)
    refine call_p hC (by simp [List.take_of_length_le]) fun hs3 hh3 _ => ?_
    simp at hh3
    cases hB : sumB cols.length (z.rows.map (pickR cols)) z.cs
    · simp [projP, projB, h1, hco, hB, sumP, eCnt]
    · simp [projP, projB, h1, hco, hB, sumP, eCnt]

end Go.Proofs.Ytimjeofhffkajaa

namespace Go.Proofs.Ytimjeofhffkajaa
open Go.Vs Go.Proofs Go
set_option maxRecDepth 100000
set_option maxHeartbeats 1000000

theorem erI (l : List Int) : erLL (l.map cI) = l.map cI := by
  have := erLL_map er_cI l
  simpa using this
section
attribute [local simp] plI_id plStr_id map_plI map_plStr pS cP cI cW dSl
theorem w_laws_FnCountedRelations (b : Sl Int) :
   VC Try.prog 3 [.d (dSl cW b)] (fun _ r => r = .d (.bool true)) := by
  refine VC.of E s3 (by kernel_rfl) Try.func3 (by rfl) (by kernel_rfl) (by simp [Try.f3]) (by simp [Try.f3]) s3_ok fun B => ?_
  simp [Try.f3, s3_7, s3_16, s3_7, s3_16, ]
  refine call_pure (w_laws_big b) rfl (by simp) rfl fun hz zz => ?_
  simp at zz
  by_cases hb : (1048576 : Int) < b.xs.length
  · simp [hb]
  simp [hb, s3_7, s3_16, ]
  refine call_some (w_spec_DrawAddCounted b (by omega)) rfl (by simp) fun n1 hs1 r1 hn1 hm1 hp1 hr1 => ?_
  obtain ⟨x, y, rfl, kx, ky, lx, ly⟩ := hp1
  have hC := addC_comm (plCnt y) (plCnt x)
  obtain ⟨xa, xr, xc⟩ := x
  obtain ⟨ya, yr, yc⟩ := y
  simp at hn1
  simp [cCnt, cS, s3_7, s3_16, ]
  refine call_some (t_impl_AddCounted ⟨xa, xr, xc⟩ ⟨ya, yr, yc⟩ kx ky) (by simp [cCnt, cS]) (by simp [cCnt, cS]) fun n2 hs2 r2 hn2 hm2 hp2 hr2 => ?_
  obtain ⟨s, rfl, ps, ks, _⟩ := hp2
  simp at hn2
  simp [cCnt, cS, s3_7, s3_16, ]
  refine call_some (t_impl_AddCounted ⟨ya, yr, yc⟩ ⟨xa, xr, xc⟩ ky kx) (by simp [cCnt, cS]) (by simp [cCnt, cS]) fun n3 hs3 r3 hn3 hm3 hp3 hr3 => ?_
  obtain ⟨u, rfl, pu, ku, _⟩ := hp3
  simp at hn3
  simp [cCnt, cS, hC.1, s3_7, s3_16, ]
  obtain ⟨A, hA⟩ : ∃ A, A = plCnt ⟨xa, xr, xc⟩ := ⟨_, rfl⟩
  obtain ⟨C, hD⟩ : ∃ C, C = plCnt ⟨ya, yr, yc⟩ := ⟨_, rfl⟩
  rw [← hA, ← hD] at hC ps pu
  rw [← hA, ← hD]
  rw [hC.2, ← ps] at pu
  refine call_p (w_spec_AddCounted A C) (by rw [hA, hD]; simp [eCnt, plCnt, plS, plI, erI, erLL_map (er_cS er_cI)]) fun hs4 hh4 hl4 => ?_
  obtain ⟨W, hW⟩ : ∃ W, W = addCP A C := ⟨_, rfl⟩
  rw [← hW] at ps hl4 ⊢
  obtain ⟨sa, sr, sc⟩ := s
  obtain ⟨ua, ur, uc⟩ := u
  obtain ⟨Wa, Wr, Wc⟩ := W
  simp at hh4
  simp [cCnt, cS, eCnt, s3_7, s3_16, ]
  refine forgetG [(3, .ptr 3 0 0), (4, .ptr 4 0 0), (5, .ptr 5 0 0), (6, .d (.bool (addCB A C))), (7, .ptr 7 0 0), (8, .d (.bool (addCB A C))), (9, .ptr 9 0 0), (10, .d (.bool (addCB A C))), (49, .d (.bool false))]
    [(3, some (.box ((cCnt ⟨xa, xr, xc⟩).map V.d))), (4, some (.box ((cCnt ⟨ya, yr, yc⟩).map V.d))), (5, some (.box ((cCnt ⟨sa, sr, sc⟩).map V.d))), (7, some (.box ((cCnt ⟨ua, ur, uc⟩).map V.d))), (9, some (.box ((eCnt ⟨Wa, Wr, Wc⟩).map V.d)))] (by simp) (by simp [cCnt, cS, eCnt]) fun t m => ?_
  simp [cCnt, cS, eCnt, s3_7, s3_16, ]
  refine call_f (VC.to (w_spec_EqualCounted (plCnt ⟨sa, sr, sc⟩) ⟨Wa, Wr, Wc⟩) (show _ = V.d (.bool true) by rw [ps]; simp)) (by simp [eCnt, plCnt, plS, plI, erI, erLL_map (er_cS er_cI)]) rfl fun hs5 hh5 => ?_
  simp at hh5
  simp [cCnt, cS, eCnt, s3_7, s3_16, ]
  have eA : ∀ m, rpL m [V.agg [V.d (.int .i64 xa), V.d (.sl xr.id xr.T (xr.xs.map (cS cI))), V.d (.sl xc.id xc.T (xc.xs.map cI))]] = some [.agg ((eCnt A).map V.d)] := fun m => by rw [hA]; simp [eCnt, plCnt, plS, plI, erI, erLL_map (er_cS er_cI)]
  refine call_f (w_impl_IsValidCounted A) (eA _) rfl fun hs6 hh6 => ?_
  simp at hh6
  simp [cCnt, cS, eCnt, s3_7, s3_16, ]
  refine call_f (w_spec_IsValidCounted A) (eA _) rfl fun hs7 hh7 => ?_
  simp at hh7
  cases hB : addCB A C
  · simp [s3_7, s3_16, ]
  have hok := addC_ok hB
  have hA1 : cntsOk A = true := hok.2.2.2.2.1
  have hC1 : cntsOk C = true := hok.2.2.2.2.2.1
  have hAr := rowsOk_row (by simp only [cntsOk, Bool.and_eq_true] at hA1; exact hA1.1.2)
  have hCr := rowsOk_row (by simp only [cntsOk, Bool.and_eq_true] at hC1; exact hC1.1.2)
  have hxr : ∀ r ∈ xr.xs, r.xs.length ≤ 4294967296 := fun r hr => by
    have := hAr r.xs (by rw [hA]; simp only [plCnt, plS]; exact List.mem_map.2 ⟨r, hr, by simp [plS]⟩)
    omega
  have hyr : ∀ r ∈ yr.xs, r.xs.length ≤ 4294967296 := fun r hr => by
    have := hCr r.xs (by rw [hD]; simp only [plCnt, plS]; exact List.mem_map.2 ⟨r, hr, by simp [plS]⟩)
    omega
  simp [s3_7, s3_16, ]
  refine cutT (X := Cnt) (fun v _ => v.rows.xs = []) (fun v => [(3, .ptr 3 0 0), (4, .ptr 4 0 0), (5, .ptr 5 0 0), (7, .ptr 7 0 0), (11, .ptr 11 0 0)]) (fun v => [(3, some (.box ((cCnt ⟨xa, xr, xc⟩).map V.d))), (4, some (.box ((cCnt ⟨ya, yr, yc⟩).map V.d))), (5, some (.box ((cCnt ⟨sa, sr, sc⟩).map V.d))), (7, some (.box ((cCnt ⟨ua, ur, uc⟩).map V.d))), (11, some (.box ((cCnt v).map V.d)))]) ?_ ?_
  · intro K hK
    simp [cCnt, cS, eCnt, s3_11, ]
    repeat' apply And.intro
    all_goals
      refine call_some (t_impl_NegateCounted ⟨xa, xr, xc⟩ kx (by simp only at lx ⊢; omega) hxr (by simp only at lx ⊢; omega)) (by simp [cCnt, cS]) (by simp [cCnt, cS]) fun n8 hs8 r8 hn8 hm8 hp8 hr8 => ?_
      obtain ⟨⟨va, vr, vc⟩, rfl, pv, kv, _⟩ := hp8
      rw [← hA, negW_eq hA1] at pv
      simp at hn8
      simp [cCnt, cS, eCnt, s3_11, ]
      repeat' apply And.intro
      all_goals
        refine call_some (t_impl_AddCounted ⟨xa, xr, xc⟩ ⟨va, vr, vc⟩ kx kv) (by simp [cCnt, cS]) (by simp [cCnt, cS]) fun n9 hs9 r9 hn9 hm9 hp9 hr9 => ?_
        obtain ⟨w, rfl, pw, kw, _⟩ := hp9
        rw [← hA, pv] at pw
        simp at hn9
        simp [cCnt, cS, eCnt, s3_11, ]
        refine hK w _ ?_ rfl rfl (by simp <;> omega) (by simp) (by simp [cCnt, cS])
        have := congrArg PCnt.rows pw
        rw [addC_neg] at this
        simpa [plCnt, plS] using this
  rintro ⟨va, vr, vc⟩ hs10 t m hv hh10
  simp [cCnt, cS, eCnt, s3_7, s3_16, ]
  refine cutT (X := Cnt) (fun w _ => plCnt w = A) (fun w => [(3, .ptr 3 0 0), (4, .ptr 4 0 0), (5, .ptr 5 0 0), (7, .ptr 7 0 0), (11, .ptr 11 0 0), (13, .ptr 13 0 0), (14, .d (.bool true))]) (fun w => [(3, some (.box ((cCnt ⟨xa, xr, xc⟩).map V.d))), (4, some (.box ((cCnt ⟨ya, yr, yc⟩).map V.d))), (5, some (.box ((cCnt ⟨sa, sr, sc⟩).map V.d))), (7, some (.box ((cCnt ⟨ua, ur, uc⟩).map V.d))), (11, some (.box ((cCnt ⟨va, vr, vc⟩).map V.d))), (13, some (.box ((cCnt w).map V.d)))]) ?_ ?_
  · intro K hK
    simp [cCnt, cS, eCnt, s3_12, ]
    repeat' apply And.intro
    all_goals
      refine call_some (t_impl_NegateCounted ⟨ya, yr, yc⟩ ky (by simp only at ly ⊢; omega) hyr (by simp only at ly ⊢; omega)) (by simp [cCnt, cS]) (by simp [cCnt, cS]) fun n8 hs8 r8 hn8 hm8 hp8 hr8 => ?_
      obtain ⟨⟨wa, wr, wc⟩, rfl, pv, kv, _⟩ := hp8
      rw [← hD, negW_eq hC1] at pv
      simp at hn8
      simp [cCnt, cS, eCnt, s3_12, ]
      repeat' apply And.intro
      all_goals
        refine call_some (t_impl_AddCounted ⟨sa, sr, sc⟩ ⟨wa, wr, wc⟩ ks kv) (by simp [cCnt, cS]) (by simp [cCnt, cS]) fun n9 hs9 r9 hn9 hm9 hp9 hr9 => ?_
        obtain ⟨w, rfl, pw, kw, _⟩ := hp9
        have hbk := addC_back hB
        rw [ps, pv, hW] at pw ⊢
        rw [hbk.2] at pw
        rw [hbk.1]
        simp at hn9
        simp [cCnt, cS, eCnt, s3_12, ]
        exact hK w _ pw rfl rfl (by simp <;> omega) (by simp) (by simp [cCnt, cS])
  rintro ⟨wa, wr, wc⟩ hs11 t m hw hh11
  simp [cCnt, cS, eCnt, s3_7, s3_16, ]
  have hlen : xr.xs.length = xc.xs.length := by
    have := cntsOk_len hA1
    rw [hA] at this
    simpa [plCnt, plS] using this
  refine loop_rule (X := Nat) (fun i => i ≤ xr.xs.length) (fun i => [(3, .ptr 3 0 0), (4, .ptr 4 0 0), (5, .ptr 5 0 0), (7, .ptr 7 0 0), (11, .ptr 11 0 0), (13, .ptr 13 0 0), (14, .d (.bool true)), (15, .d (.int .i64 i))])
    (fun i => [(3, some (.box ((cCnt ⟨xa, xr, xc⟩).map V.d))), (4, some (.box ((cCnt ⟨ya, yr, yc⟩).map V.d))), (5, some (.box ((cCnt ⟨sa, sr, sc⟩).map V.d))), (7, some (.box ((cCnt ⟨ua, ur, uc⟩).map V.d))), (11, some (.box ((cCnt ⟨va, vr, vc⟩).map V.d))), (13, some (.box ((cCnt ⟨wa, wr, wc⟩).map V.d)))]) (fun i => xr.xs.length - i) 0 (by simp) (by simp) (by simp [cCnt, cS]) ?_
  have hWl : Wr.length ≤ 4294967296 := by
    have h1 := hok.1
    rw [← hW] at h1
    simp only [cntsOk, Bool.and_eq_true] at h1
    have := rowsOk_len h1.1.2
    omega
  intro i hs t m hi hh
  by_cases hlt : i < xr.xs.length
  · have hlc : i < xc.xs.length := by omega
    have hwi := wr1 (i := i) (by have := lx.1; simp only at this; omega)
    refine anyQ fun Q => ?_
    simp [cCnt, cS, eCnt, hlt, hlc, s3_7, s3_16, ]
    refine call_f (w_impl_CountOfRow ⟨Wa, Wr, Wc⟩ xr.xs[i].xs hWl) (by rw [← ps]; simp [eCnt, plCnt, plS, plI, erI, erLL_map (er_cS er_cI)]) rfl fun hs12 hh12 => ?_
    simp at hh12
    simp [cCnt, cS, eCnt, hlt, hlc, s3_7, s3_16, ]
    refine call_f (w_spec_CountOfRow C xr.xs[i].xs) (by rw [hD]; simp [eCnt, plCnt, plS, plI, erI, erLL_map (er_cS er_cI)]) rfl fun hs13 hh13 => ?_
    simp at hh13
    have hat : countOf ⟨Wa, Wr, Wc⟩ xr.xs[i].xs = xc.xs[i] + countOf C xr.xs[i].xs := by
      have hi' : i < A.rows.length := by rw [hA]; simpa [plCnt, plS] using hlt
      have h1 := addC_at hB hi'
      have h2 : A.rows[i] = xr.xs[i].xs := by subst hA; simp [plCnt, plS]
      have h3 : ∀ h, A.cs[i]'h = xc.xs[i] := fun h => by subst hA; simp [plCnt, plS]
      rw [h2, h3, ← hW] at h1
      exact h1
    have hbd := countOf_bd (z := ⟨Wa, Wr, Wc⟩) (by rw [hW]; exact hok.1) xr.xs[i].xs
    have hwr : IntKind.i64.wrap (xc.xs[i] + countOf C xr.xs[i].xs) = countOf ⟨Wa, Wr, Wc⟩ xr.xs[i].xs := by
      rw [← hat]; exact wrap64_of (by omega) (by omega)
    simp [cCnt, cS, eCnt, hlt, hlc, hwr, hwi, s3_7, s3_16, ]
    exact back (i + 1) (by omega) (by omega) rfl (by simp <;> omega) (by simp) (by simp [cCnt, cS])
  · simp [cCnt, cS, eCnt, hlt, s3_7, s3_16, ]
    refine call_f (VC.to (w_spec_EqualCounted (plCnt ⟨sa, sr, sc⟩) (plCnt ⟨ua, ur, uc⟩)) (show _ = V.d (.bool true) by rw [pu]; simp)) (by simp [eCnt, plCnt, plS, plI, erI, erLL_map (er_cS er_cI)]) rfl fun hs14 hh14 => ?_
    simp at hh14
    simp [cCnt, cS, eCnt, s3_7, s3_16, ]
    refine call_f (VC.to (w_impl_EqualCounted (plCnt ⟨sa, sr, sc⟩) (plCnt ⟨ua, ur, uc⟩)) (show _ = V.d (.bool true) by rw [pu]; simp)) (by simp [eCnt, plCnt, plS, plI, erI, erLL_map (er_cS er_cI)]) rfl fun hs15 hh15 => ?_
    simp at hh15
    have hv' : vr.xs = [] := hv
    simp [cCnt, cS, eCnt, hv', s3_7, s3_16, ]
    refine call_f (VC.to (w_spec_EqualCounted (plCnt ⟨wa, wr, wc⟩) A) (show _ = V.d (.bool true) by rw [hw]; simp)) (by rw [hA]; simp [eCnt, plCnt, plS, plI, erI, erLL_map (er_cS er_cI)]) rfl fun hs16 hh16 => ?_
    simp at hh16
    simp [cCnt, cS, eCnt, s3_7, s3_16, ]
    refine call_f (VC.to (w_impl_IsValidCounted (plCnt ⟨sa, sr, sc⟩)) (show _ = V.d (.bool true) by rw [ps, hW, hok.1])) (by simp [eCnt, plCnt, plS, plI, erI, erLL_map (er_cS er_cI)]) rfl fun hs17 hh17 => ?_
    simp
end

end Go.Proofs.Ytimjeofhffkajaa
