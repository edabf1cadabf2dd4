/-
  B4B1: a part of a proof of this seat: the value-level semantics of Go code without maps, its walk rules, the frame of a row, facts of types, schedules, walks, plain lemmas (Facts1 Sched1 H0 HP1 HP2 H1 HP3 P1 P1b P1c P1d P1e Q1 Q2 Q3 V1 P2 N1 S3 M1 P5 P5b M3 S6 S9 S10 S11 S12 S13 P5c P5d P5e). It holds of every program and state that its hypotheses name.
-/
import Derived.Test.YtohbmjknaeenjaaA5
import Derived.Test.YtohbmjknaeenjaaProg
import Derived.KernelRfl
set_option linter.unusedSimpArgs false
set_option linter.unusedVariables false
set_option linter.unnecessarySimpa false
namespace Go.Proofs.Ytohbmjknaeenjaa
open Go.Vs Go.Proofs

theorem tsz3 : tsz Try.prog 3 = some 1 := by kernel_rfl
theorem tsz4 : tsz Try.prog 4 = some 1 := by kernel_rfl
theorem tsz9 : tsz Try.prog 9 = some 1 := by kernel_rfl
theorem tsz22 : tsz Try.prog 22 = some 1 := by kernel_rfl
theorem tsz24 : tsz Try.prog 24 = some 1 := by kernel_rfl
theorem tsz25 : tsz Try.prog 25 = some 1 := by kernel_rfl
theorem tsz26 : tsz Try.prog 26 = some 1 := by kernel_rfl
theorem tsz28 : tsz Try.prog 28 = some 3 := by kernel_rfl
theorem tsz29 : tsz Try.prog 29 = some 1 := by kernel_rfl
theorem tsz31 : tsz Try.prog 31 = some 3 := by kernel_rfl
theorem tsz33 : tsz Try.prog 33 = some 6 := by kernel_rfl
theorem tsz37 : tsz Try.prog 37 = some 1 := by kernel_rfl
theorem tsz39 : tsz Try.prog 39 = some 1 := by kernel_rfl
theorem tsz41 : tsz Try.prog 41 = some 1 := by kernel_rfl
theorem tsz43 : tsz Try.prog 43 = some 3 := by kernel_rfl
theorem tsz44 : tsz Try.prog 44 = some 3 := by kernel_rfl
theorem tsz46 : tsz Try.prog 46 = some 6 := by kernel_rfl
theorem tsz66 : tsz Try.prog 66 = some 2 := by kernel_rfl
theorem tsz68 : tsz Try.prog 68 = some 3 := by kernel_rfl
theorem tsz72 : tsz Try.prog 72 = some 2 := by kernel_rfl
theorem tsz80 : tsz Try.prog 80 = some 3 := by kernel_rfl
theorem tsz95 : tsz Try.prog 95 = some 2 := by kernel_rfl
theorem tsz99 : tsz Try.prog 99 = some 2 := by kernel_rfl
theorem tsz111 : tsz Try.prog 111 = some 3 := by kernel_rfl
theorem tagg3 : tagg Try.prog 3 = some false := by kernel_rfl
theorem tagg4 : tagg Try.prog 4 = some false := by kernel_rfl
theorem tagg9 : tagg Try.prog 9 = some false := by kernel_rfl
theorem tagg22 : tagg Try.prog 22 = some false := by kernel_rfl
theorem tagg24 : tagg Try.prog 24 = some true := by kernel_rfl
theorem tagg25 : tagg Try.prog 25 = some false := by kernel_rfl
theorem tagg26 : tagg Try.prog 26 = some false := by kernel_rfl
theorem tagg28 : tagg Try.prog 28 = some true := by kernel_rfl
theorem tagg29 : tagg Try.prog 29 = some false := by kernel_rfl
theorem tagg31 : tagg Try.prog 31 = some true := by kernel_rfl
theorem tagg33 : tagg Try.prog 33 = some true := by kernel_rfl
theorem tagg37 : tagg Try.prog 37 = some false := by kernel_rfl
theorem tagg39 : tagg Try.prog 39 = some true := by kernel_rfl
theorem tagg41 : tagg Try.prog 41 = some false := by kernel_rfl
theorem tagg43 : tagg Try.prog 43 = some true := by kernel_rfl
theorem tagg44 : tagg Try.prog 44 = some true := by kernel_rfl
theorem tagg46 : tagg Try.prog 46 = some true := by kernel_rfl
theorem tagg66 : tagg Try.prog 66 = some true := by kernel_rfl
theorem tagg68 : tagg Try.prog 68 = some true := by kernel_rfl
theorem tagg72 : tagg Try.prog 72 = some true := by kernel_rfl
theorem tagg80 : tagg Try.prog 80 = some true := by kernel_rfl
theorem tagg95 : tagg Try.prog 95 = some true := by kernel_rfl
theorem tagg99 : tagg Try.prog 99 = some true := by kernel_rfl
theorem tagg111 : tagg Try.prog 111 = some true := by kernel_rfl
theorem tzero3 : tzero Try.prog 3 = some [.int .i64 0] := by kernel_rfl
theorem tzero4 : tzero Try.prog 4 = some [.bool false] := by kernel_rfl
theorem tzero26 : tzero Try.prog 26 = some [.sl none none []] := by kernel_rfl
theorem tzero39 : tzero Try.prog 39 = some [.sl none none []] := by kernel_rfl
theorem tzero43 : tzero Try.prog 43 = some [.int .i64 0, .sl none none [], .sl none none []] := by kernel_rfl
theorem tzero44 : tzero Try.prog 44 = some [.int .i64 0, .sl none none [], .sl none none []] := by kernel_rfl
theorem tzero46 : tzero Try.prog 46 = some [.int .i64 0, .sl none none [], .sl none none [], .int .i64 0, .sl none none [], .sl none none []] := by kernel_rfl
theorem tzero72 : tzero Try.prog 72 = some [.int .i64 0, .sl none none []] := by kernel_rfl
theorem tzero80 : tzero Try.prog 80 = some [.str [], .int .i64 0, .sl none none []] := by kernel_rfl
theorem tzero99 : tzero Try.prog 99 = some [.str [], .sl none none []] := by kernel_rfl
theorem tzero111 : tzero Try.prog 111 = some [.sl none none [], .int .i64 0, .sl none none []] := by kernel_rfl
theorem tslice22 : tslice Try.prog 22 = some (68, 3, 48) := by kernel_rfl
theorem telem22 : telem Try.prog 22 = some 68 := by kernel_rfl
theorem tslice25 : tslice Try.prog 25 = some (95, 2, 40) := by kernel_rfl
theorem telem25 : telem Try.prog 25 = some 95 := by kernel_rfl
theorem tslice26 : tslice Try.prog 26 = some (3, 1, 8) := by kernel_rfl
theorem telem26 : telem Try.prog 26 = some 3 := by kernel_rfl
theorem tslice29 : tslice Try.prog 29 = some (26, 1, 24) := by kernel_rfl
theorem telem29 : telem Try.prog 29 = some 26 := by kernel_rfl
theorem tslice37 : tslice Try.prog 37 = some (80, 3, 48) := by kernel_rfl
theorem telem37 : telem Try.prog 37 = some 80 := by kernel_rfl
theorem tslice41 : tslice Try.prog 41 = some (99, 2, 40) := by kernel_rfl
theorem telem41 : telem Try.prog 41 = some 99 := by kernel_rfl
theorem tslice130 : tslice Try.prog 130 = some (4, 1, 1) := by kernel_rfl
theorem telem130 : telem Try.prog 130 = some 4 := by kernel_rfl
theorem tstr9 : tstr Try.prog 9 = some true := by kernel_rfl
theorem tstr22 : tstr Try.prog 22 = some false := by kernel_rfl
theorem tstr25 : tstr Try.prog 25 = some false := by kernel_rfl
theorem tstr26 : tstr Try.prog 26 = some false := by kernel_rfl
theorem tstr29 : tstr Try.prog 29 = some false := by kernel_rfl
theorem tstr37 : tstr Try.prog 37 = some false := by kernel_rfl
theorem tstr41 : tstr Try.prog 41 = some false := by kernel_rfl
theorem tstr130 : tstr Try.prog 130 = some false := by kernel_rfl
theorem tfld39 : tfld Try.prog 39 = true := by kernel_rfl
theorem tfld43 : tfld Try.prog 43 = true := by kernel_rfl
theorem tfld44 : tfld Try.prog 44 = true := by kernel_rfl
theorem tfld46 : tfld Try.prog 46 = true := by kernel_rfl
theorem tfld72 : tfld Try.prog 72 = true := by kernel_rfl
theorem tfld80 : tfld Try.prog 80 = true := by kernel_rfl
theorem tfld99 : tfld Try.prog 99 = true := by kernel_rfl
theorem tfld111 : tfld Try.prog 111 = true := by kernel_rfl
theorem foff24_0 : foff Try.prog 24 0 = some (0, 1) := by kernel_rfl
theorem foff28_0 : foff Try.prog 28 0 = some (0, 1) := by kernel_rfl
theorem foff28_1 : foff Try.prog 28 1 = some (1, 1) := by kernel_rfl
theorem foff28_2 : foff Try.prog 28 2 = some (2, 1) := by kernel_rfl
theorem foff31_0 : foff Try.prog 31 0 = some (0, 1) := by kernel_rfl
theorem foff31_1 : foff Try.prog 31 1 = some (1, 1) := by kernel_rfl
theorem foff31_2 : foff Try.prog 31 2 = some (2, 1) := by kernel_rfl
theorem foff33_0 : foff Try.prog 33 0 = some (0, 3) := by kernel_rfl
theorem foff33_1 : foff Try.prog 33 1 = some (3, 3) := by kernel_rfl
theorem foff39_0 : foff Try.prog 39 0 = some (0, 1) := by kernel_rfl
theorem foff43_0 : foff Try.prog 43 0 = some (0, 1) := by kernel_rfl
theorem foff43_1 : foff Try.prog 43 1 = some (1, 1) := by kernel_rfl
theorem foff43_2 : foff Try.prog 43 2 = some (2, 1) := by kernel_rfl
theorem foff44_0 : foff Try.prog 44 0 = some (0, 1) := by kernel_rfl
theorem foff44_1 : foff Try.prog 44 1 = some (1, 1) := by kernel_rfl
theorem foff44_2 : foff Try.prog 44 2 = some (2, 1) := by kernel_rfl
theorem foff46_0 : foff Try.prog 46 0 = some (0, 3) := by kernel_rfl
theorem foff46_1 : foff Try.prog 46 1 = some (3, 3) := by kernel_rfl
theorem foff66_0 : foff Try.prog 66 0 = some (0, 1) := by kernel_rfl
theorem foff66_1 : foff Try.prog 66 1 = some (1, 1) := by kernel_rfl
theorem foff68_0 : foff Try.prog 68 0 = some (0, 1) := by kernel_rfl
theorem foff68_1 : foff Try.prog 68 1 = some (1, 2) := by kernel_rfl
theorem foff72_0 : foff Try.prog 72 0 = some (0, 1) := by kernel_rfl
theorem foff72_1 : foff Try.prog 72 1 = some (1, 1) := by kernel_rfl
theorem foff80_0 : foff Try.prog 80 0 = some (0, 1) := by kernel_rfl
theorem foff80_1 : foff Try.prog 80 1 = some (1, 2) := by kernel_rfl
theorem foff95_0 : foff Try.prog 95 0 = some (0, 1) := by kernel_rfl
theorem foff95_1 : foff Try.prog 95 1 = some (1, 1) := by kernel_rfl
theorem foff99_0 : foff Try.prog 99 0 = some (0, 1) := by kernel_rfl
theorem foff99_1 : foff Try.prog 99 1 = some (1, 1) := by kernel_rfl
theorem foff111_0 : foff Try.prog 111 0 = some (0, 1) := by kernel_rfl
theorem foff111_1 : foff Try.prog 111 1 = some (1, 2) := by kernel_rfl
attribute [simp] tsz3 tsz4 tsz9 tsz22 tsz24 tsz25 tsz26 tsz28 tsz29 tsz31 tsz33 tsz37 tsz39 tsz41 tsz43 tsz44 tsz46 tsz66 tsz68 tsz72 tsz80 tsz95 tsz99 tsz111 tagg3 tagg4 tagg9 tagg22 tagg24 tagg25 tagg26 tagg28 tagg29 tagg31 tagg33 tagg37 tagg39 tagg41 tagg43 tagg44 tagg46 tagg66 tagg68 tagg72 tagg80 tagg95 tagg99 tagg111 tzero3 tzero4 tzero26 tzero39 tzero43 tzero44 tzero46 tzero72 tzero80 tzero99 tzero111 tslice22 telem22 tslice25 telem25 tslice26 telem26 tslice29 telem29 tslice37 telem37 tslice41 telem41 tslice130 telem130 tstr9 tstr22 tstr25 tstr26 tstr29 tstr37 tstr41 tstr130 tfld39 tfld43 tfld44 tfld46 tfld72 tfld80 tfld99 tfld111 foff24_0 foff28_0 foff28_1 foff28_2 foff31_0 foff31_1 foff31_2 foff33_0 foff33_1 foff39_0 foff43_0 foff43_1 foff43_2 foff44_0 foff44_1 foff44_2 foff46_0 foff46_1 foff66_0 foff66_1 foff68_0 foff68_1 foff72_0 foff72_1 foff80_0 foff80_1 foff95_0 foff95_1 foff99_0 foff99_1 foff111_0 foff111_1
end Go.Proofs.Ytohbmjknaeenjaa

namespace Go.Proofs.Ytohbmjknaeenjaa
open Go.Vs Go.Proofs Go

/-- the functions that write what they are handed -/
def E : Md := ⟨fun f => [73].contains f, false⟩
/-- as E; slices are known by elements only -/
def EP : Md := ⟨E.e, true⟩
@[simp] theorem E_p : E.p = false := Eq.trans rfl rfl
@[simp] theorem EP_p : EP.p = true := Eq.trans rfl rfl

theorem E73 : E 73 = true := rfl
theorem EP73 : EP 73 = true := rfl
/-- the orders of laws.FnExactIsValidView -/
def s3 (i : Nat) : Tr := if i = 8 then .seq [0, 2, 1, 3, 4, 5] .nil else if i = 14 then .seq [0, 1, 2, 3, 4] .nil else if i = 16 then .seq [0, 1, 2, 3, 4] .nil else .nil
theorem s3_8 : s3 8 = .seq [0, 2, 1, 3, 4, 5] .nil := rfl
theorem s3_14 : s3 14 = .seq [0, 1, 2, 3, 4] .nil := rfl
theorem s3_16 : s3 16 = .seq [0, 1, 2, 3, 4] .nil := rfl
theorem s3_ok : okCode E 45 s3 (Try.f3.body.getD .skip) = true := by kernel_rfl
/-- the orders of laws.szDatabase -/
def s4 (_ : Nat) : Tr := .nil
theorem s4_ok : okCode E 12 s4 (Try.f4.body.getD .skip) = true := by kernel_rfl
/-- the orders of laws.szView -/
def s5 (_ : Nat) : Tr := .nil
theorem s5_ok : okCode E 18 s5 (Try.f5.body.getD .skip) = true := by kernel_rfl
/-- the orders of spec.IsValidView -/
def s6 (_ : Nat) : Tr := .nil
theorem s6_ok : okCode E 21 s6 (Try.f6.body.getD .skip) = true := by kernel_rfl
/-- the orders of laws.toDatabase -/
def s7 (_ : Nat) : Tr := .nil
theorem s7_ok : okCode E 9 s7 (Try.f7.body.getD .skip) = true := by kernel_rfl
/-- the orders of laws.toView -/
def s8 (_ : Nat) : Tr := .nil
theorem s8_ok : okCode E 13 s8 (Try.f8.body.getD .skip) = true := by kernel_rfl
/-- the orders of impl.IsValidView -/
def s9 (_ : Nat) : Tr := .nil
theorem s9_ok : okCode E 22 s9 (Try.f9.body.getD .skip) = true := by kernel_rfl
/-- the orders of laws.eqDatabase -/
def s10 (_ : Nat) : Tr := .nil
theorem s10_ok : okCode E 11 s10 (Try.f10.body.getD .skip) = true := by kernel_rfl
/-- the orders of laws.eqView -/
def s11 (_ : Nat) : Tr := .nil
theorem s11_ok : okCode E 17 s11 (Try.f11.body.getD .skip) = true := by kernel_rfl
/-- the orders of laws.szTableS -/
def s12 (_ : Nat) : Tr := .nil
theorem s12_ok : okCode E 27 s12 (Try.f12.body.getD .skip) = true := by kernel_rfl
/-- the orders of laws.szQuery -/
def s13 (_ : Nat) : Tr := .nil
theorem s13_ok : okCode E 18 s13 (Try.f13.body.getD .skip) = true := by kernel_rfl
/-- the orders of laws.szCountedRelation -/
def s14 (_ : Nat) : Tr := .nil
theorem s14_ok : okCode E 18 s14 (Try.f14.body.getD .skip) = true := by kernel_rfl
/-- the orders of spec.l28Z -/
def s15 (_ : Nat) : Tr := .nil
theorem s15_ok : okCode E 40 s15 (Try.f15.body.getD .skip) = true := by kernel_rfl
/-- the orders of spec.EqualCounted -/
def s16 (_ : Nat) : Tr := .nil
theorem s16_ok : okCode E 27 s16 (Try.f16.body.getD .skip) = true := by kernel_rfl
/-- the orders of laws.toTableS -/
def s17 (_ : Nat) : Tr := .nil
theorem s17_ok : okCode E 23 s17 (Try.f17.body.getD .skip) = true := by kernel_rfl
/-- the orders of laws.toQuery -/
def s18 (_ : Nat) : Tr := .nil
theorem s18_ok : okCode E 16 s18 (Try.f18.body.getD .skip) = true := by kernel_rfl
/-- the orders of laws.toCountedRelation -/
def s19 (_ : Nat) : Tr := .nil
theorem s19_ok : okCode E 16 s19 (Try.f19.body.getD .skip) = true := by kernel_rfl
/-- the orders of impl.NewView -/
def s20 (i : Nat) : Tr := if i = 8 then .seq [0, 2, 1, 3, 4, 5] .nil else .nil
theorem s20_8 : s20 8 = .seq [0, 2, 1, 3, 4, 5] .nil := rfl
theorem s20_ok : okCode E 40 s20 (Try.f20.body.getD .skip) = true := by kernel_rfl
/-- the orders of impl.EqualCounted -/
def s21 (_ : Nat) : Tr := .nil
theorem s21_ok : okCode E 24 s21 (Try.f21.body.getD .skip) = true := by kernel_rfl
/-- the orders of laws.eqTableS -/
def s22 (i : Nat) : Tr := if i = 6 then .seq [0, 1, 2, 3, 4, 5, 6, 7, 8, 9] .nil else .nil
theorem s22_6 : s22 6 = .seq [0, 1, 2, 3, 4, 5, 6, 7, 8, 9] .nil := rfl
theorem s22_ok : okCode E 27 s22 (Try.f22.body.getD .skip) = true := by kernel_rfl
/-- the orders of laws.eqQuery -/
def s23 (_ : Nat) : Tr := .nil
theorem s23_ok : okCode E 22 s23 (Try.f23.body.getD .skip) = true := by kernel_rfl
/-- the orders of laws.eqCountedRelation -/
def s24 (_ : Nat) : Tr := .nil
theorem s24_ok : okCode E 22 s24 (Try.f24.body.getD .skip) = true := by kernel_rfl
/-- the orders of laws.szTable -/
def s25 (_ : Nat) : Tr := .nil
theorem s25_ok : okCode E 19 s25 (Try.f25.body.getD .skip) = true := by kernel_rfl
/-- the orders of laws.szAtomS -/
def s26 (_ : Nat) : Tr := .nil
theorem s26_ok : okCode E 27 s26 (Try.f26.body.getD .skip) = true := by kernel_rfl
/-- the orders of laws.szIntS -/
def s27 (_ : Nat) : Tr := .nil
theorem s27_ok : okCode E 12 s27 (Try.f27.body.getD .skip) = true := by kernel_rfl
/-- the orders of laws.szIntSS -/
def s28 (_ : Nat) : Tr := .nil
theorem s28_ok : okCode E 27 s28 (Try.f28.body.getD .skip) = true := by kernel_rfl
/-- the orders of spec.AllBindings -/
def s29 (i : Nat) : Tr := if i = 6 then .seq [0, 1, 2, 3, 4] (.both (.seq [5] (.both (.seq [6, 7, 8, 9, 10, 11, 12] .nil) (.seq [10, 6, 7, 8, 9, 11, 12] .nil))) (.seq [10, 5, 6, 7, 8, 9, 11, 12] .nil)) else .nil
theorem s29_6 : s29 6 = .seq [0, 1, 2, 3, 4] (.both (.seq [5] (.both (.seq [6, 7, 8, 9, 10, 11, 12] .nil) (.seq [10, 6, 7, 8, 9, 11, 12] .nil))) (.seq [10, 5, 6, 7, 8, 9, 11, 12] .nil)) := rfl
theorem s29_ok : okCode E 36 s29 (Try.f29.body.getD .skip) = true := by kernel_rfl
/-- the orders of spec.IsQueryFor -/
def s30 (i : Nat) : Tr := if i = 4 then .seq [0, 1, 2, 3, 4, 5, 6] (.both (.seq [7, 8, 9, 10, 11, 12, 13] .nil) (.seq [11, 7, 8, 9, 10, 12, 13] .nil)) else if i = 5 then .seq [0, 1, 2, 3, 4, 5, 6, 7, 8, 9, 10, 11, 12, 13] .nil else .nil
theorem s30_4 : s30 4 = .seq [0, 1, 2, 3, 4, 5, 6] (.both (.seq [7, 8, 9, 10, 11, 12, 13] .nil) (.seq [11, 7, 8, 9, 10, 12, 13] .nil)) := rfl
theorem s30_5 : s30 5 = .seq [0, 1, 2, 3, 4, 5, 6, 7, 8, 9, 10, 11, 12, 13] .nil := rfl
theorem s30_ok : okCode E 46 s30 (Try.f30.body.getD .skip) = true := by kernel_rfl
/-- the orders of spec.CountedFromRelation -/
def s31 (_ : Nat) : Tr := .nil
theorem s31_ok : okCode E 31 s31 (Try.f31.body.getD .skip) = true := by kernel_rfl
/-- the orders of spec.ProjectCounted -/
def s32 (i : Nat) : Tr := if i = 4 then .seq [0, 1, 2, 3, 4, 5, 6, 7, 8] .nil else .nil
theorem s32_4 : s32 4 = .seq [0, 1, 2, 3, 4, 5, 6, 7, 8] .nil := rfl
theorem s32_ok : okCode E 65 s32 (Try.f32.body.getD .skip) = true := by kernel_rfl
/-- the orders of spec.EqualRelations -/
def s33 (i : Nat) : Tr := if i = 6 then .seq [0, 1, 2, 3, 4, 5, 6, 7, 8, 9, 10, 11] .nil else .nil
theorem s33_6 : s33 6 = .seq [0, 1, 2, 3, 4, 5, 6, 7, 8, 9, 10, 11] .nil := rfl
theorem s33_ok : okCode E 39 s33 (Try.f33.body.getD .skip) = true := by kernel_rfl
/-- the orders of spec.CompareRows -/
def s34 (i : Nat) : Tr := if i = 4 then .seq [0, 1, 2, 3, 4, 5, 6, 7, 8] .nil else if i = 6 then .seq [0, 1, 2, 3, 4, 5, 6, 7, 8] .nil else .nil
theorem s34_4 : s34 4 = .seq [0, 1, 2, 3, 4, 5, 6, 7, 8] .nil := rfl
theorem s34_6 : s34 6 = .seq [0, 1, 2, 3, 4, 5, 6, 7, 8] .nil := rfl
theorem s34_ok : okCode E 46 s34 (Try.f34.body.getD .skip) = true := by kernel_rfl
/-- the orders of laws.toTable -/
def s35 (_ : Nat) : Tr := .nil
theorem s35_ok : okCode E 12 s35 (Try.f35.body.getD .skip) = true := by kernel_rfl
/-- the orders of laws.toAtomS -/
def s36 (_ : Nat) : Tr := .nil
theorem s36_ok : okCode E 23 s36 (Try.f36.body.getD .skip) = true := by kernel_rfl
/-- the orders of laws.toIntS -/
def s37 (_ : Nat) : Tr := .nil
theorem s37_ok : okCode E 22 s37 (Try.f37.body.getD .skip) = true := by kernel_rfl
/-- the orders of laws.toIntSS -/
def s38 (_ : Nat) : Tr := .nil
theorem s38_ok : okCode E 23 s38 (Try.f38.body.getD .skip) = true := by kernel_rfl
/-- the orders of impl.bindings -/
def s39 (i : Nat) : Tr := if i = 25 then .seq [0, 1, 2] (.both (.seq [3, 4, 5, 6] .nil) (.seq [5, 3, 4, 6] .nil)) else .nil
theorem s39_25 : s39 25 = .seq [0, 1, 2] (.both (.seq [3, 4, 5, 6] .nil) (.seq [5, 3, 4, 6] .nil)) := rfl
theorem s39_ok : okCode E 86 s39 (Try.f39.body.getD .skip) = true := by kernel_rfl
/-- the orders of impl.CountedFromRelation -/
def s40 (i : Nat) : Tr := if i = 3 then .seq [0, 1, 2, 3] (.both (.seq [4, 5, 6, 7] .nil) (.seq [6, 4, 5, 7] .nil)) else .nil
theorem s40_3 : s40 3 = .seq [0, 1, 2, 3] (.both (.seq [4, 5, 6, 7] .nil) (.seq [6, 4, 5, 7] .nil)) := rfl
theorem s40_ok : okCode E 27 s40 (Try.f40.body.getD .skip) = true := by kernel_rfl
/-- the orders of impl.ProjectCounted -/
def s41 (i : Nat) : Tr := if i = 7 then .seq [0, 1, 3, 4, 5, 6, 7, 2, 8] .nil else .nil
theorem s41_7 : s41 7 = .seq [0, 1, 3, 4, 5, 6, 7, 2, 8] .nil := rfl
theorem s41_ok : okCode E 49 s41 (Try.f41.body.getD .skip) = true := by kernel_rfl
/-- the orders of impl.copyQuery -/
def s42 (i : Nat) : Tr := if i = 1 then .seq [0, 1, 2, 3] (.both (.seq [4, 5, 6, 7] .nil) (.seq [6, 4, 5, 7] .nil)) else if i = 5 then .seq [0, 1, 2, 3, 4, 5, 6, 7, 8, 9, 10, 11] .nil else .nil
theorem s42_1 : s42 1 = .seq [0, 1, 2, 3] (.both (.seq [4, 5, 6, 7] .nil) (.seq [6, 4, 5, 7] .nil)) := rfl
theorem s42_5 : s42 5 = .seq [0, 1, 2, 3, 4, 5, 6, 7, 8, 9, 10, 11] .nil := rfl
theorem s42_ok : okCode E 32 s42 (Try.f42.body.getD .skip) = true := by kernel_rfl
/-- the orders of impl.sameRows -/
def s43 (i : Nat) : Tr := if i = 6 then .seq [0, 1, 2, 3, 4, 5, 6, 7, 8, 9] .nil else .nil
theorem s43_6 : s43 6 = .seq [0, 1, 2, 3, 4, 5, 6, 7, 8, 9] .nil := rfl
theorem s43_ok : okCode E 27 s43 (Try.f43.body.getD .skip) = true := by kernel_rfl
/-- the orders of impl.sameInts -/
def s44 (i : Nat) : Tr := if i = 6 then .seq [0, 1, 2, 3, 4, 5, 6, 7, 8] .nil else .nil
theorem s44_6 : s44 6 = .seq [0, 1, 2, 3, 4, 5, 6, 7, 8] .nil := rfl
theorem s44_ok : okCode E 26 s44 (Try.f44.body.getD .skip) = true := by kernel_rfl
/-- the orders of laws.eqTable -/
def s45 (_ : Nat) : Tr := .nil
theorem s45_ok : okCode E 16 s45 (Try.f45.body.getD .skip) = true := by kernel_rfl
/-- the orders of laws.eqAtomS -/
def s46 (i : Nat) : Tr := if i = 6 then .seq [0, 1, 2, 3, 4, 5, 6, 7, 8, 9] .nil else .nil
theorem s46_6 : s46 6 = .seq [0, 1, 2, 3, 4, 5, 6, 7, 8, 9] .nil := rfl
theorem s46_ok : okCode E 27 s46 (Try.f46.body.getD .skip) = true := by kernel_rfl
/-- the orders of laws.eqIntS -/
def s47 (i : Nat) : Tr := if i = 6 then .seq [0, 1, 2, 3, 4, 5, 6, 7, 8] .nil else .nil
theorem s47_6 : s47 6 = .seq [0, 1, 2, 3, 4, 5, 6, 7, 8] .nil := rfl
theorem s47_ok : okCode E 26 s47 (Try.f47.body.getD .skip) = true := by kernel_rfl
/-- the orders of laws.eqIntSS -/
def s48 (i : Nat) : Tr := if i = 6 then .seq [0, 1, 2, 3, 4, 5, 6, 7, 8, 9] .nil else .nil
theorem s48_6 : s48 6 = .seq [0, 1, 2, 3, 4, 5, 6, 7, 8, 9] .nil := rfl
theorem s48_ok : okCode E 27 s48 (Try.f48.body.getD .skip) = true := by kernel_rfl
/-- the orders of laws.szRelation -/
def s49 (_ : Nat) : Tr := .nil
theorem s49_ok : okCode E 12 s49 (Try.f49.body.getD .skip) = true := by kernel_rfl
/-- the orders of laws.szAtom -/
def s50 (_ : Nat) : Tr := .nil
theorem s50_ok : okCode E 19 s50 (Try.f50.body.getD .skip) = true := by kernel_rfl
/-- the orders of spec.NewRelation -/
def s51 (_ : Nat) : Tr := .nil
theorem s51_ok : okCode E 40 s51 (Try.f51.body.getD .skip) = true := by kernel_rfl
/-- the orders of spec.l8Walk -/
def s52 (i : Nat) : Tr := if i = 4 then .seq [0, 1, 2, 3, 4, 5, 6] (.both (.seq [7, 8, 9, 10, 11, 12, 13] .nil) (.seq [11, 7, 8, 9, 10, 12, 13] .nil)) else if i = 14 then .seq [0, 1, 2, 3, 4, 5, 6, 7, 8, 9, 10, 11, 12, 13, 14, 15, 16, 17, 18, 19, 20] .nil else .nil
theorem s52_4 : s52 4 = .seq [0, 1, 2, 3, 4, 5, 6] (.both (.seq [7, 8, 9, 10, 11, 12, 13] .nil) (.seq [11, 7, 8, 9, 10, 12, 13] .nil)) := rfl
theorem s52_14 : s52 14 = .seq [0, 1, 2, 3, 4, 5, 6, 7, 8, 9, 10, 11, 12, 13, 14, 15, 16, 17, 18, 19, 20] .nil := rfl
theorem s52_ok : okCode E 107 s52 (Try.f52.body.getD .skip) = true := by kernel_rfl
/-- the orders of spec.LookupRelation -/
def s53 (_ : Nat) : Tr := .nil
theorem s53_ok : okCode E 34 s53 (Try.f53.body.getD .skip) = true := by kernel_rfl
/-- the orders of spec.IsValidQuery -/
def s54 (i : Nat) : Tr := if i = 11 then .seq [0, 1, 2, 3, 4, 5, 6, 7, 8, 9, 10, 11, 12, 13] .nil else if i = 26 then .seq [0, 1, 2, 3, 4, 5, 6, 7, 8, 9, 10, 11, 12, 13, 14, 15, 16, 17, 18, 19, 20, 21, 22] .nil else .nil
theorem s54_11 : s54 11 = .seq [0, 1, 2, 3, 4, 5, 6, 7, 8, 9, 10, 11, 12, 13] .nil := rfl
theorem s54_26 : s54 26 = .seq [0, 1, 2, 3, 4, 5, 6, 7, 8, 9, 10, 11, 12, 13, 14, 15, 16, 17, 18, 19, 20, 21, 22] .nil := rfl
theorem s54_ok : okCode E 134 s54 (Try.f54.body.getD .skip) = true := by kernel_rfl
/-- the orders of spec.IsValidDatabase -/
def s55 (i : Nat) : Tr := if i = 5 then .seq [0, 1, 2, 3, 4, 5, 6, 7, 8, 9, 10, 11, 12, 13, 14, 15, 16, 17, 18, 19, 20, 21, 22, 23, 24, 25, 26, 27, 28, 29, 30, 31, 32, 33, 34, 35, 36, 37, 38] .nil else .nil
theorem s55_5 : s55 5 = .seq [0, 1, 2, 3, 4, 5, 6, 7, 8, 9, 10, 11, 12, 13, 14, 15, 16, 17, 18, 19, 20, 21, 22, 23, 24, 25, 26, 27, 28, 29, 30, 31, 32, 33, 34, 35, 36, 37, 38] .nil := rfl
theorem s55_ok : okCode E 60 s55 (Try.f55.body.getD .skip) = true := by kernel_rfl
/-- the orders of spec.IsValidRelation -/
def s56 (i : Nat) : Tr := if i = 6 then .seq [0, 1, 2, 3, 4, 5, 6, 7, 8, 9, 10, 11, 12, 13, 14, 15, 16, 17, 18, 19, 20, 21, 22, 23, 24, 25, 26, 27, 28, 29, 30, 31, 32, 33, 34, 35, 36] .nil else .nil
theorem s56_6 : s56 6 = .seq [0, 1, 2, 3, 4, 5, 6, 7, 8, 9, 10, 11, 12, 13, 14, 15, 16, 17, 18, 19, 20, 21, 22, 23, 24, 25, 26, 27, 28, 29, 30, 31, 32, 33, 34, 35, 36] .nil := rfl
theorem s56_ok : okCode E 58 s56 (Try.f56.body.getD .skip) = true := by kernel_rfl
/-- the orders of spec.l5Copy -/
def s57 (i : Nat) : Tr := if i = 5 then .seq [0, 1, 3, 4, 5, 6, 7, 2] (.app 8 [15] (.seq [9, 10, 11, 12] .nil)) else .nil
theorem s57_5 : s57 5 = .seq [0, 1, 3, 4, 5, 6, 7, 2] (.app 8 [15] (.seq [9, 10, 11, 12] .nil)) := rfl
theorem s57_ok : okCode E 28 s57 (Try.f57.body.getD .skip) = true := by kernel_rfl
/-- the orders of spec.l1In -/
def s58 (_ : Nat) : Tr := .nil
theorem s58_ok : okCode E 15 s58 (Try.f58.body.getD .skip) = true := by kernel_rfl
/-- the orders of spec.IsValidCounted -/
def s59 (_ : Nat) : Tr := .nil
theorem s59_ok : okCode E 42 s59 (Try.f59.body.getD .skip) = true := by kernel_rfl
/-- the orders of spec.l5Cols -/
def s60 (_ : Nat) : Tr := .nil
theorem s60_ok : okCode E 25 s60 (Try.f60.body.getD .skip) = true := by kernel_rfl
/-- the orders of spec.l27Sum -/
def s61 (i : Nat) : Tr := if i = 8 then .seq [0, 1, 2, 3, 4, 5, 6, 7, 8, 9, 10] .nil else if i = 9 then .seq [0, 1, 2, 3, 4, 5, 6, 7, 8, 9, 10, 11, 12] .nil else if i = 15 then .seq [0, 1, 2, 3, 4, 5, 6, 7, 8, 9, 10] .nil else if i = 16 then .seq [0, 1, 2, 3, 4, 5, 6, 7, 8, 9] .nil else .nil
theorem s61_8 : s61 8 = .seq [0, 1, 2, 3, 4, 5, 6, 7, 8, 9, 10] .nil := rfl
theorem s61_9 : s61 9 = .seq [0, 1, 2, 3, 4, 5, 6, 7, 8, 9, 10, 11, 12] .nil := rfl
theorem s61_15 : s61 15 = .seq [0, 1, 2, 3, 4, 5, 6, 7, 8, 9, 10] .nil := rfl
theorem s61_16 : s61 16 = .seq [0, 1, 2, 3, 4, 5, 6, 7, 8, 9] .nil := rfl
theorem s61_ok : okCode E 94 s61 (Try.f61.body.getD .skip) = true := by kernel_rfl
/-- the orders of laws.toRelation -/
def s62 (_ : Nat) : Tr := .nil
theorem s62_ok : okCode E 12 s62 (Try.f62.body.getD .skip) = true := by kernel_rfl
/-- the orders of laws.toAtom -/
def s63 (_ : Nat) : Tr := .nil
theorem s63_ok : okCode E 12 s63 (Try.f63.body.getD .skip) = true := by kernel_rfl
/-- the orders of impl.IsQueryFor -/
def s64 (_ : Nat) : Tr := .nil
theorem s64_ok : okCode E 42 s64 (Try.f64.body.getD .skip) = true := by kernel_rfl
/-- the orders of impl.AtomRelation -/
def s65 (i : Nat) : Tr := if i = 1 then .seq [0, 2, 3, 1, 4, 5, 6] .nil else .nil
theorem s65_1 : s65 1 = .seq [0, 2, 3, 1, 4, 5, 6] .nil := rfl
theorem s65_ok : okCode E 11 s65 (Try.f65.body.getD .skip) = true := by kernel_rfl
/-- the orders of impl.unite -/
def s66 (i : Nat) : Tr := if i = 9 then .seq [0, 1, 2, 4, 7, 8, 9] (.both (.seq [3, 5, 6, 10, 11] .nil) (.seq [5, 3, 6, 10, 11] .nil)) else .nil
theorem s66_9 : s66 9 = .seq [0, 1, 2, 4, 7, 8, 9] (.both (.seq [3, 5, 6, 10, 11] .nil) (.seq [5, 3, 6, 10, 11] .nil)) := rfl
theorem s66_ok : okCode E 56 s66 (Try.f66.body.getD .skip) = true := by kernel_rfl
/-- the orders of impl.glue -/
def s67 (i : Nat) : Tr := if i = 7 then .seq [0, 1, 2, 3, 4, 5, 6, 7, 8, 9, 10, 11, 12, 13, 14, 15, 16, 17] .nil else .nil
theorem s67_7 : s67 7 = .seq [0, 1, 2, 3, 4, 5, 6, 7, 8, 9, 10, 11, 12, 13, 14, 15, 16, 17] .nil := rfl
theorem s67_ok : okCode E 67 s67 (Try.f67.body.getD .skip) = true := by kernel_rfl
/-- the orders of impl.sorted -/
def s68 (i : Nat) : Tr := if i = 4 then .seq [0, 1, 2, 4, 5, 6, 3, 7, 8, 9] .nil else if i = 11 then .seq [0, 1, 2, 3, 4, 5, 6, 7] .nil else .nil
theorem s68_4 : s68 4 = .seq [0, 1, 2, 4, 5, 6, 3, 7, 8, 9] .nil := rfl
theorem s68_11 : s68 11 = .seq [0, 1, 2, 3, 4, 5, 6, 7] .nil := rfl
theorem s68_ok : okCode E 68 s68 (Try.f68.body.getD .skip) = true := by kernel_rfl
/-- the orders of impl.IsValidRelation -/
def s69 (_ : Nat) : Tr := .nil
theorem s69_ok : okCode E 8 s69 (Try.f69.body.getD .skip) = true := by kernel_rfl
/-- the orders of impl.copyRows -/
def s70 (_ : Nat) : Tr := .nil
theorem s70_ok : okCode E 19 s70 (Try.f70.body.getD .skip) = true := by kernel_rfl
/-- the orders of impl.IsValidCounted -/
def s71 (_ : Nat) : Tr := .nil
theorem s71_ok : okCode E 35 s71 (Try.f71.body.getD .skip) = true := by kernel_rfl
/-- the orders of impl.columnsFit -/
def s72 (_ : Nat) : Tr := .nil
theorem s72_ok : okCode E 22 s72 (Try.f72.body.getD .skip) = true := by kernel_rfl
/-- the orders of impl.tally -/
def s73 (i : Nat) : Tr := if i = 3 then .seq [0, 2, 3, 4, 5, 6, 7, 9, 13, 14, 15, 16, 17, 18, 1] (.app 8 [43] (.seq [10, 11] (.app 12 [43] (.seq [19, 20, 21, 22] .nil)))) else if i = 4 then .seq [0, 1, 2, 3, 4, 5, 6, 8, 11, 12, 13, 14, 15, 16] (.both (.seq [7, 9] (.app 10 [63] (.seq [17, 18, 19, 20] .nil))) (.seq [9, 7] (.app 10 [63] (.seq [17, 18, 19, 20] .nil)))) else .nil
theorem s73_3 : s73 3 = .seq [0, 2, 3, 4, 5, 6, 7, 9, 13, 14, 15, 16, 17, 18, 1] (.app 8 [43] (.seq [10, 11] (.app 12 [43] (.seq [19, 20, 21, 22] .nil)))) := rfl
theorem s73_4 : s73 4 = .seq [0, 1, 2, 3, 4, 5, 6, 8, 11, 12, 13, 14, 15, 16] (.both (.seq [7, 9] (.app 10 [63] (.seq [17, 18, 19, 20] .nil))) (.seq [9, 7] (.app 10 [63] (.seq [17, 18, 19, 20] .nil)))) := rfl
theorem s73_ok : okCode E 70 s73 (Try.f73.body.getD .skip) = true := by kernel_rfl
/-- the orders of impl.pick -/
def s74 (_ : Nat) : Tr := .nil
theorem s74_ok : okCode E 24 s74 (Try.f74.body.getD .skip) = true := by kernel_rfl
/-- the orders of impl.settled -/
def s75 (i : Nat) : Tr := if i = 6 then .seq [0, 1, 2, 3, 4, 5, 6, 7, 8, 9, 10] .nil else .nil
theorem s75_6 : s75 6 = .seq [0, 1, 2, 3, 4, 5, 6, 7, 8, 9, 10] .nil := rfl
theorem s75_ok : okCode E 37 s75 (Try.f75.body.getD .skip) = true := by kernel_rfl
/-- the orders of impl.copyInts -/
def s76 (_ : Nat) : Tr := .nil
theorem s76_ok : okCode E 6 s76 (Try.f76.body.getD .skip) = true := by kernel_rfl
/-- the orders of laws.eqRelation -/
def s77 (_ : Nat) : Tr := .nil
theorem s77_ok : okCode E 16 s77 (Try.f77.body.getD .skip) = true := by kernel_rfl
/-- the orders of laws.eqAtom -/
def s78 (_ : Nat) : Tr := .nil
theorem s78_ok : okCode E 16 s78 (Try.f78.body.getD .skip) = true := by kernel_rfl
/-- the orders of spec.AreValidValues -/
def s79 (_ : Nat) : Tr := .nil
theorem s79_ok : okCode E 16 s79 (Try.f79.body.getD .skip) = true := by kernel_rfl
/-- the orders of spec.l5Sort -/
def s80 (i : Nat) : Tr := if i = 13 then .seq [0, 1, 2, 3, 4, 5, 6, 7] .nil else .nil
theorem s80_13 : s80 13 = .seq [0, 1, 2, 3, 4, 5, 6, 7] .nil := rfl
theorem s80_ok : okCode E 80 s80 (Try.f80.body.getD .skip) = true := by kernel_rfl
/-- the orders of spec.IsValidName -/
def s81 (_ : Nat) : Tr := .nil
theorem s81_ok : okCode E 23 s81 (Try.f81.body.getD .skip) = true := by kernel_rfl
/-- the orders of spec.ContainsVariable -/
def s82 (_ : Nat) : Tr := .nil
theorem s82_ok : okCode E 20 s82 (Try.f82.body.getD .skip) = true := by kernel_rfl
/-- the orders of spec.l7Find -/
def s83 (_ : Nat) : Tr := .nil
theorem s83_ok : okCode E 19 s83 (Try.f83.body.getD .skip) = true := by kernel_rfl
/-- the orders of spec.l5Place -/
def s84 (_ : Nat) : Tr := .nil
theorem s84_ok : okCode E 46 s84 (Try.f84.body.getD .skip) = true := by kernel_rfl
/-- the orders of impl.IsValidQuery -/
def s85 (_ : Nat) : Tr := .nil
theorem s85_ok : okCode E 76 s85 (Try.f85.body.getD .skip) = true := by kernel_rfl
/-- the orders of impl.IsValidDatabase -/
def s86 (i : Nat) : Tr := if i = 6 then .seq [0, 1, 2, 3, 4, 5, 6, 7, 8, 9, 10, 11, 12, 13, 14, 15, 16, 17, 18, 19, 20, 21, 22, 23, 24, 25, 26, 27, 28, 29, 30, 31, 32, 33, 34, 35, 36, 37, 38] .nil else .nil
theorem s86_6 : s86 6 = .seq [0, 1, 2, 3, 4, 5, 6, 7, 8, 9, 10, 11, 12, 13, 14, 15, 16, 17, 18, 19, 20, 21, 22, 23, 24, 25, 26, 27, 28, 29, 30, 31, 32, 33, 34, 35, 36, 37, 38] .nil := rfl
theorem s86_ok : okCode E 57 s86 (Try.f86.body.getD .skip) = true := by kernel_rfl
/-- the orders of impl.LookupRelation -/
def s87 (_ : Nat) : Tr := .nil
theorem s87_ok : okCode E 26 s87 (Try.f87.body.getD .skip) = true := by kernel_rfl
/-- the orders of impl.AtomVariables -/
def s88 (_ : Nat) : Tr := .nil
theorem s88_ok : okCode E 17 s88 (Try.f88.body.getD .skip) = true := by kernel_rfl
/-- the orders of impl.AtomBindings -/
def s89 (i : Nat) : Tr := if i = 16 then .seq [0, 1, 2, 3, 4, 5, 6, 7, 8, 9, 10, 11, 12] .nil else .nil
theorem s89_16 : s89 16 = .seq [0, 1, 2, 3, 4, 5, 6, 7, 8, 9, 10, 11, 12] .nil := rfl
theorem s89_ok : okCode E 98 s89 (Try.f89.body.getD .skip) = true := by kernel_rfl
/-- the orders of impl.indexOf -/
def s90 (_ : Nat) : Tr := .nil
theorem s90_ok : okCode E 19 s90 (Try.f90.body.getD .skip) = true := by kernel_rfl
/-- the orders of impl.CompareRows -/
def s91 (i : Nat) : Tr := if i = 4 then .seq [0, 1, 2, 3, 4, 5, 6, 7, 8] .nil else if i = 5 then .seq [0, 1, 2, 3, 4, 5, 6, 7, 8, 9] .nil else .nil
theorem s91_4 : s91 4 = .seq [0, 1, 2, 3, 4, 5, 6, 7, 8] .nil := rfl
theorem s91_5 : s91 5 = .seq [0, 1, 2, 3, 4, 5, 6, 7, 8, 9] .nil := rfl
theorem s91_ok : okCode E 41 s91 (Try.f91.body.getD .skip) = true := by kernel_rfl
/-- the orders of impl.rowsValid -/
def s92 (_ : Nat) : Tr := .nil
theorem s92_ok : okCode E 46 s92 (Try.f92.body.getD .skip) = true := by kernel_rfl
/-- the orders of impl.within -/
def s93 (_ : Nat) : Tr := .nil
theorem s93_ok : okCode E 15 s93 (Try.f93.body.getD .skip) = true := by kernel_rfl
/-- the orders of impl.place -/
def s94 (_ : Nat) : Tr := .nil
theorem s94_ok : okCode E 42 s94 (Try.f94.body.getD .skip) = true := by kernel_rfl
/-- the orders of impl.isSetOf -/
def s95 (_ : Nat) : Tr := .nil
theorem s95_ok : okCode E 27 s95 (Try.f95.body.getD .skip) = true := by kernel_rfl
/-- the orders of impl.IsValidName -/
def s96 (_ : Nat) : Tr := .nil
theorem s96_ok : okCode E 5 s96 (Try.f96.body.getD .skip) = true := by kernel_rfl
/-- the orders of impl.copyRelation -/
def s97 (i : Nat) : Tr := if i = 1 then .seq [0, 1, 2, 3, 4, 5, 6] .nil else .nil
theorem s97_1 : s97 1 = .seq [0, 1, 2, 3, 4, 5, 6] .nil := rfl
theorem s97_ok : okCode E 9 s97 (Try.f97.body.getD .skip) = true := by kernel_rfl
/-- the orders of impl.ContainsVariable -/
def s98 (_ : Nat) : Tr := .nil
theorem s98_ok : okCode E 9 s98 (Try.f98.body.getD .skip) = true := by kernel_rfl
/-- the orders of impl.compareInts -/
def s99 (_ : Nat) : Tr := .nil
theorem s99_ok : okCode E 13 s99 (Try.f99.body.getD .skip) = true := by kernel_rfl
/-- the orders of impl.AreValidValues -/
def s100 (_ : Nat) : Tr := .nil
theorem s100_ok : okCode E 15 s100 (Try.f100.body.getD .skip) = true := by kernel_rfl
/-- the orders of impl.hasInt -/
def s101 (_ : Nat) : Tr := .nil
theorem s101_ok : okCode E 9 s101 (Try.f101.body.getD .skip) = true := by kernel_rfl
/-- the orders of impl.isLetters -/
def s102 (_ : Nat) : Tr := .nil
theorem s102_ok : okCode E 31 s102 (Try.f102.body.getD .skip) = true := by kernel_rfl
end Go.Proofs.Ytohbmjknaeenjaa

namespace Go.Proofs.Ytohbmjknaeenjaa
open Go.Vs Go.Proofs Go
set_option maxRecDepth 100000
set_option maxHeartbeats 1000000


end Go.Proofs.Ytohbmjknaeenjaa

namespace Go.Proofs.Ytohbmjknaeenjaa
open Go.Vs Go.Proofs Go
set_option maxRecDepth 100000
set_option maxHeartbeats 1000000

theorem w_laws_szIntS (a : Sl (Int)) (left : Int) (h0 : 0 ≤ left) (h1 : left ≤ 1048576) (ha : okS okI a) :
   VC Try.prog 27 [.d (dSl cI a), .d (.int .i64 left)] (fun _ r => r = .d (.int .i64 (szv left (swS swI a)))) := by
  refine VC.of E s27 (by kernel_rfl) Try.func27 (by rfl) (by kernel_rfl) (by simp [Try.f27]) (by simp [Try.f27]) s27_ok fun B => ?_
  have ha1 := ha.1
  simp only [maxLen] at ha1
  have hw1 : IntKind.i64.wrap (left - (a.xs.length : Int)) = left - a.xs.length := wrap64_of (by omega) (by omega)
  have hwt : swS swI a = a.xs.length + sumW swI a.xs := rfl
  simp [Try.f27, dSl, hw1]
  have hz : sumW swI a.xs = 0 := by
    generalize a.xs = l
    induction l with
    | nil => rfl
    | cons b r ih => simp [swI, ih]
  refine ⟨fun h => ?_, fun h => ?_⟩
  · rw [szv_neg (by omega)]
  · rw [szv_pos (by omega)]; omega
theorem w_laws_eqIntS (a b : Sl (Int)) (ha : okS okI a) :
   VC Try.prog 47 [.d (dSl cI a), .d (dSl cI b)] (fun _ r => r = .d (.bool (plS plI a == plS plI b))) := by
  refine VC.of E s47 (by kernel_rfl) Try.func47 (by rfl) (by kernel_rfl) (by simp [Try.f47]) (by simp [Try.f47]) s47_ok fun B => ?_
  have ha1 := ha.1
  simp only [maxLen] at ha1
  simp [Try.f47, s47_6, dSl, plS]
  refine ⟨fun h e => h (by have := congrArg List.length e; simp at this; omega), fun hl => ?_⟩
  have hl' : a.xs.length = b.xs.length := by omega
  refine loop_rule (X := Nat) (fun i => i ≤ a.xs.length ∧ (a.xs.map plI).take i = (b.xs.map plI).take i) (fun i => [(0, .d (.sl a.id a.T (a.xs.map cI))), (1, .d (.sl b.id b.T (b.xs.map cI))), (5, .d (.int .i64 i))]) (fun _ => []) (fun i => a.xs.length - i) 0 (by simp) (by simp) (by simp) ?_
  intro i hs t m hi hh
  by_cases hlt : i < a.xs.length
  · have hwi := wr1 (i := i) (by omega)
    have hlb : i < b.xs.length := by omega
    have hst := eqm_step plI hlt hlb hi.2
    simp [cI, hlt, hlb, hwi, s47_6, ]
    simp only [plI] at hst
    refine ⟨fun hne he => hne (hst.2 (by rw [he])), fun heq => ?_⟩
    exact back (i + 1) ⟨by omega, hst.1 heq⟩ (by omega) rfl (by simp) (by simp) (by simp)
  · have := eq_all (a := a.xs.map plI) (b := b.xs.map plI) (by simpa using Nat.le_of_not_lt hlt) (by simpa using hl') hi.2
    have hlb : ¬ i < b.xs.length := by omega
    simp [hlt, hlb, this]
theorem w_laws_szIntSS (a : Sl (Sl (Int))) (left : Int) (h0 : 0 ≤ left) (h1 : left ≤ 1048576) (ha : okS (okS okI) a) :
   VC Try.prog 28 [.d (dSl (cS cI) a), .d (.int .i64 left)] (fun _ r => r = .d (.int .i64 (szv left (swS (swS swI) a)))) := by
  refine VC.of E s28 (by kernel_rfl) Try.func28 (by rfl) (by kernel_rfl) (by simp [Try.f28]) (by simp [Try.f28]) s28_ok fun B => ?_
  have ha1 := ha.1
  simp only [maxLen] at ha1
  have hw1 : IntKind.i64.wrap (left - (a.xs.length : Int)) = left - a.xs.length := wrap64_of (by omega) (by omega)
  have hwt : swS (swS swI) a = a.xs.length + sumW (swS swI) a.xs := rfl
  simp [Try.f28, dSl, hw1]
  refine ⟨fun h => ?_, fun h => ?_⟩
  · rw [szv_neg (by omega)]
  · refine loop_rule (X := Nat) (fun i => i ≤ a.xs.length ∧ 0 ≤ left - a.xs.length - sumW (swS swI) (a.xs.take i)) (fun i => [(0, .d (.sl a.id a.T (a.xs.map (cS cI)))), (1, .d (.int .i64 (left - a.xs.length - sumW (swS swI) (a.xs.take i)))), (5, .d (.int .i64 i))]) (fun _ => []) (fun i => a.xs.length - i) 0 ?_ ?_ (by simp) ?_
    · simp; omega
    · simp
    · intro i hs t m hi hh
      by_cases hlt : i < a.xs.length
      · simp [cS, hlt]
        refine call_pure (w_laws_szIntS a.xs[i] _ (by omega) (by omega) (ha.2 _ (List.getElem_mem _))) rfl (by simp) rfl fun hs' hh' => ?_
        have e1 := sumW_succ (swS swI) hlt
        have e2 := sumW_le (swS swI) a.xs (i + 1)
        have hwi := wr1 (i := i) (by omega)
        by_cases hc : (swS swI a.xs[i] : Int) ≤ left - a.xs.length - sumW (swS swI) (a.xs.take i)
        · rw [szv_pos hc]
          have hn : ¬ left - a.xs.length - sumW (swS swI) (a.xs.take i) - swS swI a.xs[i] < 0 := by omega
          simp [hwi, hn]
          refine back (i + 1) ⟨by omega, by omega⟩ (by omega) rfl (by simp at hh' ⊢; omega) ?_ (by simp)
          simp
          omega
        · rw [szv_neg (by omega)]
          simp
          rw [szv_neg (by omega)]
          all_goals exact fun h => absurd h (by decide)
      · have : i = a.xs.length := by omega
        subst this
        simp
        rw [szv_pos] <;> (simp at hi ⊢; omega)
theorem w_laws_eqIntSS (a b : Sl (Sl (Int))) (ha : okS (okS okI) a) :
   VC Try.prog 48 [.d (dSl (cS cI) a), .d (dSl (cS cI) b)] (fun _ r => r = .d (.bool (plS (plS plI) a == plS (plS plI) b))) := by
  refine VC.of E s48 (by kernel_rfl) Try.func48 (by rfl) (by kernel_rfl) (by simp [Try.f48]) (by simp [Try.f48]) s48_ok fun B => ?_
  have ha1 := ha.1
  simp only [maxLen] at ha1
  simp [Try.f48, s48_6, dSl, plS]
  refine ⟨fun h e => h (by have := congrArg List.length e; simp at this; omega), fun hl => ?_⟩
  have hl' : a.xs.length = b.xs.length := by omega
  refine loop_rule (X := Nat) (fun i => i ≤ a.xs.length ∧ (a.xs.map (plS plI)).take i = (b.xs.map (plS plI)).take i) (fun i => [(0, .d (.sl a.id a.T (a.xs.map (cS cI)))), (1, .d (.sl b.id b.T (b.xs.map (cS cI)))), (5, .d (.int .i64 i))]) (fun _ => []) (fun i => a.xs.length - i) 0 (by simp) (by simp) (by simp) ?_
  intro i hs t m hi hh
  by_cases hlt : i < a.xs.length
  · have hwi := wr1 (i := i) (by omega)
    have hlb : i < b.xs.length := by omega
    have hst := eqm_step (plS plI) hlt hlb hi.2
    simp [cS, hlt, hlb, s48_6, ]
    refine call_pure (w_laws_eqIntS a.xs[i] b.xs[i] (ha.2 _ (List.getElem_mem _))) rfl (by simp) rfl fun hs' hh' => ?_
    simp at hh'
    simp [hwi]
    refine ⟨fun hne he => hne (hst.2 (by rw [he])), fun heq => ?_⟩
    exact back (i + 1) ⟨by omega, hst.1 heq⟩ (by omega) rfl (by simp; omega) (by simp) (by simp)
  · have := eq_all (a := a.xs.map (plS plI)) (b := b.xs.map (plS plI)) (by simpa using Nat.le_of_not_lt hlt) (by simpa using hl') hi.2
    have hlb : ¬ i < b.xs.length := by omega
    simp [hlt, hlb, this]
theorem w_laws_szRelation (a : Reln) (left : Int) (h0 : 0 ≤ left) (h1 : left ≤ 1048576) (ha : okReln a) :
   VC Try.prog 49 [.agg ((cReln a).map V.d), .d (.int .i64 left)] (fun _ r => r = .d (.int .i64 (szv left (swReln a)))) := by
  refine VC.of E s49 (by kernel_rfl) Try.func49 (by rfl) (by kernel_rfl) (by simp [Try.f49]) (by simp [Try.f49]) s49_ok fun B => ?_
  have hwt : swReln a = swS (swS swI) a.rows := rfl
  have hc0 : (0 : Int) ≤ left := h0
  simp [Try.f49, cI, cReln, cS, dSl]
  refine call_pure (w_laws_szIntSS a.rows _ (by omega) (by omega) ha.2) rfl (by simp) rfl fun hs' hh' => ?_
  by_cases hb0 : (swS (swS swI) a.rows : Int) ≤ left
  · rw [szv_pos hb0]
    have hn0 : ¬ left - swS (swS swI) a.rows < 0 := by omega
    simp [hn0]
    rw [szv_pos (by omega)]; omega
  · rw [szv_neg (by omega)]
    simp
    try rw [szv_neg (by omega)]
    all_goals exact fun h => absurd h (by decide)
theorem w_laws_eqRelation (a b : Reln) (ha : okReln a) :
   VC Try.prog 77 [.agg ((cReln a).map V.d), .agg ((cReln b).map V.d)] (fun _ r => r = .d (.bool (plReln a == plReln b))) := by
  refine VC.of E s77 (by kernel_rfl) Try.func77 (by rfl) (by kernel_rfl) (by simp [Try.f77]) (by simp [Try.f77]) s77_ok fun B => ?_
  simp [Try.f77, cI, cReln, cS, dSl, plReln, plI, plStr]
  by_cases e0 : a.ar = b.ar
  case neg => simp [e0]
  simp [e0]
  refine call_pure (w_laws_eqIntSS a.rows b.rows ha.2) rfl (by simp) rfl fun hs1 hh1 => ?_
  by_cases e1 : plS (plS plI) a.rows = plS (plS plI) b.rows
  case neg => simp [e1]
  simp [e1]
theorem w_laws_szTable (a : Tab) (left : Int) (h0 : 0 ≤ left) (h1 : left ≤ 1048576) (ha : okTab a) :
   VC Try.prog 25 [.agg ((cTab a).map V.d), .d (.int .i64 left)] (fun _ r => r = .d (.int .i64 (szv left (swTab a)))) := by
  refine VC.of E s25 (by kernel_rfl) Try.func25 (by rfl) (by kernel_rfl) (by simp [Try.f25]) (by simp [Try.f25]) s25_ok fun B => ?_
  have hwt : swTab a = swStr a.name + swReln a.rel := rfl
  have hc0 : (0 : Int) ≤ left := h0
  have hs0 : a.name.length ≤ 9223372036854775807 := ha.1
  have hw0 : IntKind.i64.wrap (left - (a.name.length : Int)) = left - a.name.length := wrap64_of (by omega) (by omega)
  have hq0 : swStr a.name = a.name.length := rfl
  simp [Try.f25, cI, cReln, cS, cStr, cTab, dSl, hw0]
  refine ⟨fun hneg => ?_, fun hpos => ?_⟩
  · rw [szv_neg (by omega)]
  · skip
    refine call_pure (w_laws_szRelation a.rel _ (by omega) (by omega) ha.2) rfl (by simp) rfl fun hs' hh' => ?_
    by_cases hb1 : (swReln a.rel : Int) ≤ left - a.name.length
    · rw [szv_pos hb1]
      have hn1 : ¬ left - a.name.length - swReln a.rel < 0 := by omega
      simp [hn1]
      rw [szv_pos (by omega)]; omega
    · rw [szv_neg (by omega)]
      simp
      try rw [szv_neg (by omega)]
      all_goals exact fun h => absurd h (by decide)
theorem w_laws_eqTable (a b : Tab) (ha : okTab a) :
   VC Try.prog 45 [.agg ((cTab a).map V.d), .agg ((cTab b).map V.d)] (fun _ r => r = .d (.bool (plTab a == plTab b))) := by
  refine VC.of E s45 (by kernel_rfl) Try.func45 (by rfl) (by kernel_rfl) (by simp [Try.f45]) (by simp [Try.f45]) s45_ok fun B => ?_
  simp [Try.f45, cI, cReln, cS, cStr, cTab, dSl, plTab, plI, plStr]
  by_cases e0 : a.name = b.name
  case neg => simp [e0]
  simp [e0]
  refine call_pure (w_laws_eqRelation a.rel b.rel ha.2) rfl (by simp) rfl fun hs1 hh1 => ?_
  by_cases e1 : plReln a.rel = plReln b.rel
  case neg => simp [e1]
  simp [e1]
theorem w_laws_szTableS (a : Sl (Tab)) (left : Int) (h0 : 0 ≤ left) (h1 : left ≤ 1048576) (ha : okS okTab a) :
   VC Try.prog 12 [.d (dSl cTab a), .d (.int .i64 left)] (fun _ r => r = .d (.int .i64 (szv left (swS swTab a)))) := by
  refine VC.of E s12 (by kernel_rfl) Try.func12 (by rfl) (by kernel_rfl) (by simp [Try.f12]) (by simp [Try.f12]) s12_ok fun B => ?_
  have ha1 := ha.1
  simp only [maxLen] at ha1
  have hw1 : IntKind.i64.wrap (left - (a.xs.length : Int)) = left - a.xs.length := wrap64_of (by omega) (by omega)
  have hwt : swS swTab a = a.xs.length + sumW swTab a.xs := rfl
  simp [Try.f12, dSl, hw1]
  refine ⟨fun h => ?_, fun h => ?_⟩
  · rw [szv_neg (by omega)]
  · refine loop_rule (X := Nat) (fun i => i ≤ a.xs.length ∧ 0 ≤ left - a.xs.length - sumW swTab (a.xs.take i)) (fun i => [(0, .d (.sl a.id a.T (a.xs.map cTab))), (1, .d (.int .i64 (left - a.xs.length - sumW swTab (a.xs.take i)))), (5, .d (.int .i64 i))]) (fun _ => []) (fun i => a.xs.length - i) 0 ?_ ?_ (by simp) ?_
    · simp; omega
    · simp
    · intro i hs t m hi hh
      by_cases hlt : i < a.xs.length
      · simp [cI, cReln, cS, cStr, cTab, hlt]
        refine call_pure (w_laws_szTable a.xs[i] _ (by omega) (by omega) (ha.2 _ (List.getElem_mem _))) rfl (by simp) rfl fun hs' hh' => ?_
        have e1 := sumW_succ swTab hlt
        have e2 := sumW_le swTab a.xs (i + 1)
        have hwi := wr1 (i := i) (by omega)
        by_cases hc : (swTab a.xs[i] : Int) ≤ left - a.xs.length - sumW swTab (a.xs.take i)
        · rw [szv_pos hc]
          have hn : ¬ left - a.xs.length - sumW swTab (a.xs.take i) - swTab a.xs[i] < 0 := by omega
          simp [hwi, hn]
          refine back (i + 1) ⟨by omega, by omega⟩ (by omega) rfl (by simp at hh' ⊢; omega) ?_ (by simp)
          simp
          omega
        · rw [szv_neg (by omega)]
          simp
          rw [szv_neg (by omega)]
          all_goals exact fun h => absurd h (by decide)
      · have : i = a.xs.length := by omega
        subst this
        simp
        rw [szv_pos] <;> (simp at hi ⊢; omega)
theorem w_laws_eqTableS (a b : Sl (Tab)) (ha : okS okTab a) :
   VC Try.prog 22 [.d (dSl cTab a), .d (dSl cTab b)] (fun _ r => r = .d (.bool (plS plTab a == plS plTab b))) := by
  refine VC.of E s22 (by kernel_rfl) Try.func22 (by rfl) (by kernel_rfl) (by simp [Try.f22]) (by simp [Try.f22]) s22_ok fun B => ?_
  have ha1 := ha.1
  simp only [maxLen] at ha1
  simp [Try.f22, s22_6, dSl, plS]
  refine ⟨fun h e => h (by have := congrArg List.length e; simp at this; omega), fun hl => ?_⟩
  have hl' : a.xs.length = b.xs.length := by omega
  refine loop_rule (X := Nat) (fun i => i ≤ a.xs.length ∧ (a.xs.map plTab).take i = (b.xs.map plTab).take i) (fun i => [(0, .d (.sl a.id a.T (a.xs.map cTab))), (1, .d (.sl b.id b.T (b.xs.map cTab))), (5, .d (.int .i64 i))]) (fun _ => []) (fun i => a.xs.length - i) 0 (by simp) (by simp) (by simp) ?_
  intro i hs t m hi hh
  by_cases hlt : i < a.xs.length
  · have hwi := wr1 (i := i) (by omega)
    have hlb : i < b.xs.length := by omega
    have hst := eqm_step plTab hlt hlb hi.2
    simp [cI, cReln, cS, cStr, cTab, hlt, hlb, s22_6, ]
    refine call_pure (w_laws_eqTable a.xs[i] b.xs[i] (ha.2 _ (List.getElem_mem _))) rfl (by simp) rfl fun hs' hh' => ?_
    simp at hh'
    simp [hwi]
    refine ⟨fun hne he => hne (hst.2 (by rw [he])), fun heq => ?_⟩
    exact back (i + 1) ⟨by omega, hst.1 heq⟩ (by omega) rfl (by simp; omega) (by simp) (by simp)
  · have := eq_all (a := a.xs.map plTab) (b := b.xs.map plTab) (by simpa using Nat.le_of_not_lt hlt) (by simpa using hl') hi.2
    have hlb : ¬ i < b.xs.length := by omega
    simp [hlt, hlb, this]
theorem w_laws_szDatabase (a : Db) (left : Int) (h0 : 0 ≤ left) (h1 : left ≤ 1048576) (ha : okDb a) :
   VC Try.prog 4 [.agg ((cDb a).map V.d), .d (.int .i64 left)] (fun _ r => r = .d (.int .i64 (szv left (swDb a)))) := by
  refine VC.of E s4 (by kernel_rfl) Try.func4 (by rfl) (by kernel_rfl) (by simp [Try.f4]) (by simp [Try.f4]) s4_ok fun B => ?_
  have hwt : swDb a = swS swTab a.tabs := rfl
  have hc0 : (0 : Int) ≤ left := h0
  simp [Try.f4, cDb, cS, dSl]
  refine call_pure (w_laws_szTableS a.tabs _ (by omega) (by omega) ha) rfl (by simp) rfl fun hs' hh' => ?_
  by_cases hb0 : (swS swTab a.tabs : Int) ≤ left
  · rw [szv_pos hb0]
    have hn0 : ¬ left - swS swTab a.tabs < 0 := by omega
    simp [hn0]
    rw [szv_pos (by omega)]; omega
  · rw [szv_neg (by omega)]
    simp
    try rw [szv_neg (by omega)]
    all_goals exact fun h => absurd h (by decide)
theorem w_laws_eqDatabase (a b : Db) (ha : okDb a) :
   VC Try.prog 10 [.agg ((cDb a).map V.d), .agg ((cDb b).map V.d)] (fun _ r => r = .d (.bool (plDb a == plDb b))) := by
  refine VC.of E s10 (by kernel_rfl) Try.func10 (by rfl) (by kernel_rfl) (by simp [Try.f10]) (by simp [Try.f10]) s10_ok fun B => ?_
  simp [Try.f10, cDb, cS, dSl, plDb, plI, plStr]
  refine call_pure (w_laws_eqTableS a.tabs b.tabs ha) rfl (by simp) rfl fun hs0 hh0 => ?_
  by_cases e0 : plS plTab a.tabs = plS plTab b.tabs
  case neg => simp [e0]
  simp [e0]
theorem w_laws_szCountedRelation (a : Cnt) (left : Int) (h0 : 0 ≤ left) (h1 : left ≤ 1048576) (ha : okCnt a) :
   VC Try.prog 14 [.agg ((cCnt a).map V.d), .d (.int .i64 left)] (fun _ r => r = .d (.int .i64 (szv left (swCnt a)))) := by
  refine VC.of E s14 (by kernel_rfl) Try.func14 (by rfl) (by kernel_rfl) (by simp [Try.f14]) (by simp [Try.f14]) s14_ok fun B => ?_
  have hwt : swCnt a = swS (swS swI) a.rows + swS swI a.cs := rfl
  have hc0 : (0 : Int) ≤ left := h0
  simp [Try.f14, cCnt, cI, cS, dSl]
  refine call_pure (w_laws_szIntSS a.rows _ (by omega) (by omega) ha.2.1) rfl (by simp) rfl fun hs' hh' => ?_
  by_cases hb0 : (swS (swS swI) a.rows : Int) ≤ left
  · rw [szv_pos hb0]
    have hn0 : ¬ left - swS (swS swI) a.rows < 0 := by omega
    simp [hn0]
    refine call_pure (w_laws_szIntS a.cs _ (by omega) (by omega) ha.2.2) rfl (by simp) rfl fun hs' hh' => ?_
    by_cases hb1 : (swS swI a.cs : Int) ≤ left - swS (swS swI) a.rows
    · rw [szv_pos hb1]
      have hn1 : ¬ left - swS (swS swI) a.rows - swS swI a.cs < 0 := by omega
      simp [hn1]
      rw [szv_pos (by omega)]; omega
    · rw [szv_neg (by omega)]
      simp
      try rw [szv_neg (by omega)]
      all_goals exact fun h => absurd h (by decide)
  · rw [szv_neg (by omega)]
    simp
    try rw [szv_neg (by omega)]
    all_goals exact fun h => absurd h (by decide)
theorem w_laws_eqCountedRelation (a b : Cnt) (ha : okCnt a) :
   VC Try.prog 24 [.agg ((cCnt a).map V.d), .agg ((cCnt b).map V.d)] (fun _ r => r = .d (.bool (plCnt a == plCnt b))) := by
  refine VC.of E s24 (by kernel_rfl) Try.func24 (by rfl) (by kernel_rfl) (by simp [Try.f24]) (by simp [Try.f24]) s24_ok fun B => ?_
  simp [Try.f24, cCnt, cI, cS, dSl, plCnt, plI, plStr]
  by_cases e0 : a.ar = b.ar
  case neg => simp [e0]
  simp [e0]
  refine call_pure (w_laws_eqIntSS a.rows b.rows ha.2.1) rfl (by simp) rfl fun hs1 hh1 => ?_
  by_cases e1 : plS (plS plI) a.rows = plS (plS plI) b.rows
  case neg => simp [e1]
  simp [e1]
  refine call_pure (w_laws_eqIntS a.cs b.cs ha.2.2) rfl (by simp) rfl fun hs2 hh2 => ?_
  by_cases e2 : plS plI a.cs = plS plI b.cs
  case neg => simp [e2]
  simp [e2]
theorem w_laws_szAtom (a : Atom) (left : Int) (h0 : 0 ≤ left) (h1 : left ≤ 1048576) (ha : okAtom a) :
   VC Try.prog 50 [.agg ((cAtom a).map V.d), .d (.int .i64 left)] (fun _ r => r = .d (.int .i64 (szv left (swAtom a)))) := by
  refine VC.of E s50 (by kernel_rfl) Try.func50 (by rfl) (by kernel_rfl) (by simp [Try.f50]) (by simp [Try.f50]) s50_ok fun B => ?_
  have hwt : swAtom a = swStr a.rel + swS swI a.vars := rfl
  have hc0 : (0 : Int) ≤ left := h0
  have hs0 : a.rel.length ≤ 9223372036854775807 := ha.1
  have hw0 : IntKind.i64.wrap (left - (a.rel.length : Int)) = left - a.rel.length := wrap64_of (by omega) (by omega)
  have hq0 : swStr a.rel = a.rel.length := rfl
  simp [Try.f50, cAtom, cS, cStr, dSl, hw0]
  refine ⟨fun hneg => ?_, fun hpos => ?_⟩
  · rw [szv_neg (by omega)]
  · skip
    refine call_pure (w_laws_szIntS a.vars _ (by omega) (by omega) ha.2) rfl (by simp) rfl fun hs' hh' => ?_
    by_cases hb1 : (swS swI a.vars : Int) ≤ left - a.rel.length
    · rw [szv_pos hb1]
      have hn1 : ¬ left - a.rel.length - swS swI a.vars < 0 := by omega
      simp [hn1]
      rw [szv_pos (by omega)]; omega
    · rw [szv_neg (by omega)]
      simp
      try rw [szv_neg (by omega)]
      all_goals exact fun h => absurd h (by decide)
theorem w_laws_eqAtom (a b : Atom) (ha : okAtom a) :
   VC Try.prog 78 [.agg ((cAtom a).map V.d), .agg ((cAtom b).map V.d)] (fun _ r => r = .d (.bool (plAtom a == plAtom b))) := by
  refine VC.of E s78 (by kernel_rfl) Try.func78 (by rfl) (by kernel_rfl) (by simp [Try.f78]) (by simp [Try.f78]) s78_ok fun B => ?_
  simp [Try.f78, cAtom, cS, cStr, dSl, plAtom, plI, plStr]
  by_cases e0 : a.rel = b.rel
  case neg => simp [e0]
  simp [e0]
  refine call_pure (w_laws_eqIntS a.vars b.vars ha.2) rfl (by simp) rfl fun hs1 hh1 => ?_
  by_cases e1 : plS plI a.vars = plS plI b.vars
  case neg => simp [e1]
  simp [e1]
theorem w_laws_szAtomS (a : Sl (Atom)) (left : Int) (h0 : 0 ≤ left) (h1 : left ≤ 1048576) (ha : okS okAtom a) :
   VC Try.prog 26 [.d (dSl cAtom a), .d (.int .i64 left)] (fun _ r => r = .d (.int .i64 (szv left (swS swAtom a)))) := by
  refine VC.of E s26 (by kernel_rfl) Try.func26 (by rfl) (by kernel_rfl) (by simp [Try.f26]) (by simp [Try.f26]) s26_ok fun B => ?_
  have ha1 := ha.1
  simp only [maxLen] at ha1
  have hw1 : IntKind.i64.wrap (left - (a.xs.length : Int)) = left - a.xs.length := wrap64_of (by omega) (by omega)
  have hwt : swS swAtom a = a.xs.length + sumW swAtom a.xs := rfl
  simp [Try.f26, dSl, hw1]
  refine ⟨fun h => ?_, fun h => ?_⟩
  · rw [szv_neg (by omega)]
  · refine loop_rule (X := Nat) (fun i => i ≤ a.xs.length ∧ 0 ≤ left - a.xs.length - sumW swAtom (a.xs.take i)) (fun i => [(0, .d (.sl a.id a.T (a.xs.map cAtom))), (1, .d (.int .i64 (left - a.xs.length - sumW swAtom (a.xs.take i)))), (5, .d (.int .i64 i))]) (fun _ => []) (fun i => a.xs.length - i) 0 ?_ ?_ (by simp) ?_
    · simp; omega
    · simp
    · intro i hs t m hi hh
      by_cases hlt : i < a.xs.length
      · simp [cAtom, cS, cStr, hlt]
        refine call_pure (w_laws_szAtom a.xs[i] _ (by omega) (by omega) (ha.2 _ (List.getElem_mem _))) rfl (by simp) rfl fun hs' hh' => ?_
        have e1 := sumW_succ swAtom hlt
        have e2 := sumW_le swAtom a.xs (i + 1)
        have hwi := wr1 (i := i) (by omega)
        by_cases hc : (swAtom a.xs[i] : Int) ≤ left - a.xs.length - sumW swAtom (a.xs.take i)
        · rw [szv_pos hc]
          have hn : ¬ left - a.xs.length - sumW swAtom (a.xs.take i) - swAtom a.xs[i] < 0 := by omega
          simp [hwi, hn]
          refine back (i + 1) ⟨by omega, by omega⟩ (by omega) rfl (by simp at hh' ⊢; omega) ?_ (by simp)
          simp
          omega
        · rw [szv_neg (by omega)]
          simp
          rw [szv_neg (by omega)]
          all_goals exact fun h => absurd h (by decide)
      · have : i = a.xs.length := by omega
        subst this
        simp
        rw [szv_pos] <;> (simp at hi ⊢; omega)
theorem w_laws_eqAtomS (a b : Sl (Atom)) (ha : okS okAtom a) :
   VC Try.prog 46 [.d (dSl cAtom a), .d (dSl cAtom b)] (fun _ r => r = .d (.bool (plS plAtom a == plS plAtom b))) := by
  refine VC.of E s46 (by kernel_rfl) Try.func46 (by rfl) (by kernel_rfl) (by simp [Try.f46]) (by simp [Try.f46]) s46_ok fun B => ?_
  have ha1 := ha.1
  simp only [maxLen] at ha1
  simp [Try.f46, s46_6, dSl, plS]
  refine ⟨fun h e => h (by have := congrArg List.length e; simp at this; omega), fun hl => ?_⟩
  have hl' : a.xs.length = b.xs.length := by omega
  refine loop_rule (X := Nat) (fun i => i ≤ a.xs.length ∧ (a.xs.map plAtom).take i = (b.xs.map plAtom).take i) (fun i => [(0, .d (.sl a.id a.T (a.xs.map cAtom))), (1, .d (.sl b.id b.T (b.xs.map cAtom))), (5, .d (.int .i64 i))]) (fun _ => []) (fun i => a.xs.length - i) 0 (by simp) (by simp) (by simp) ?_
  intro i hs t m hi hh
  by_cases hlt : i < a.xs.length
  · have hwi := wr1 (i := i) (by omega)
    have hlb : i < b.xs.length := by omega
    have hst := eqm_step plAtom hlt hlb hi.2
    simp [cAtom, cS, cStr, hlt, hlb, s46_6, ]
    refine call_pure (w_laws_eqAtom a.xs[i] b.xs[i] (ha.2 _ (List.getElem_mem _))) rfl (by simp) rfl fun hs' hh' => ?_
    simp at hh'
    simp [hwi]
    refine ⟨fun hne he => hne (hst.2 (by rw [he])), fun heq => ?_⟩
    exact back (i + 1) ⟨by omega, hst.1 heq⟩ (by omega) rfl (by simp; omega) (by simp) (by simp)
  · have := eq_all (a := a.xs.map plAtom) (b := b.xs.map plAtom) (by simpa using Nat.le_of_not_lt hlt) (by simpa using hl') hi.2
    have hlb : ¬ i < b.xs.length := by omega
    simp [hlt, hlb, this]
theorem w_laws_szQuery (a : Query) (left : Int) (h0 : 0 ≤ left) (h1 : left ≤ 1048576) (ha : okQuery a) :
   VC Try.prog 13 [.agg ((cQuery a).map V.d), .d (.int .i64 left)] (fun _ r => r = .d (.int .i64 (szv left (swQuery a)))) := by
  refine VC.of E s13 (by kernel_rfl) Try.func13 (by rfl) (by kernel_rfl) (by simp [Try.f13]) (by simp [Try.f13]) s13_ok fun B => ?_
  have hwt : swQuery a = swS swAtom a.atoms + swS swI a.out := rfl
  have hc0 : (0 : Int) ≤ left := h0
  simp [Try.f13, cI, cQuery, cS, dSl]
  refine call_pure (w_laws_szAtomS a.atoms _ (by omega) (by omega) ha.2.1) rfl (by simp) rfl fun hs' hh' => ?_
  by_cases hb0 : (swS swAtom a.atoms : Int) ≤ left
  · rw [szv_pos hb0]
    have hn0 : ¬ left - swS swAtom a.atoms < 0 := by omega
    simp [hn0]
    refine call_pure (w_laws_szIntS a.out _ (by omega) (by omega) ha.2.2) rfl (by simp) rfl fun hs' hh' => ?_
    by_cases hb1 : (swS swI a.out : Int) ≤ left - swS swAtom a.atoms
    · rw [szv_pos hb1]
      have hn1 : ¬ left - swS swAtom a.atoms - swS swI a.out < 0 := by omega
      simp [hn1]
      rw [szv_pos (by omega)]; omega
    · rw [szv_neg (by omega)]
      simp
      try rw [szv_neg (by omega)]
      all_goals exact fun h => absurd h (by decide)
  · rw [szv_neg (by omega)]
    simp
    try rw [szv_neg (by omega)]
    all_goals exact fun h => absurd h (by decide)
theorem w_laws_eqQuery (a b : Query) (ha : okQuery a) :
   VC Try.prog 23 [.agg ((cQuery a).map V.d), .agg ((cQuery b).map V.d)] (fun _ r => r = .d (.bool (plQuery a == plQuery b))) := by
  refine VC.of E s23 (by kernel_rfl) Try.func23 (by rfl) (by kernel_rfl) (by simp [Try.f23]) (by simp [Try.f23]) s23_ok fun B => ?_
  simp [Try.f23, cI, cQuery, cS, dSl, plQuery, plI, plStr]
  by_cases e0 : a.n = b.n
  case neg => simp [e0]
  simp [e0]
  refine call_pure (w_laws_eqAtomS a.atoms b.atoms ha.2.1) rfl (by simp) rfl fun hs1 hh1 => ?_
  by_cases e1 : plS plAtom a.atoms = plS plAtom b.atoms
  case neg => simp [e1]
  simp [e1]
  refine call_pure (w_laws_eqIntS a.out b.out ha.2.2) rfl (by simp) rfl fun hs2 hh2 => ?_
  by_cases e2 : plS plI a.out = plS plI b.out
  case neg => simp [e2]
  simp [e2]
theorem w_laws_szView (a : View) (left : Int) (h0 : 0 ≤ left) (h1 : left ≤ 1048576) (ha : okView a) :
   VC Try.prog 5 [.agg ((cView a).map V.d), .d (.int .i64 left)] (fun _ r => r = .d (.int .i64 (szv left (swView a)))) := by
  refine VC.of E s5 (by kernel_rfl) Try.func5 (by rfl) (by kernel_rfl) (by simp [Try.f5]) (by simp [Try.f5]) s5_ok fun B => ?_
  have hwt : swView a = swQuery a.q + swCnt a.r := rfl
  have hc0 : (0 : Int) ≤ left := h0
  simp [Try.f5, cCnt, cI, cQuery, cS, cView, dSl]
  refine call_pure (w_laws_szQuery a.q _ (by omega) (by omega) ha.1) rfl (by simp) rfl fun hs' hh' => ?_
  by_cases hb0 : (swQuery a.q : Int) ≤ left
  · rw [szv_pos hb0]
    have hn0 : ¬ left - swQuery a.q < 0 := by omega
    simp [hn0]
    refine call_pure (w_laws_szCountedRelation a.r _ (by omega) (by omega) ha.2) rfl (by simp) rfl fun hs' hh' => ?_
    by_cases hb1 : (swCnt a.r : Int) ≤ left - swQuery a.q
    · rw [szv_pos hb1]
      have hn1 : ¬ left - swQuery a.q - swCnt a.r < 0 := by omega
      simp [hn1]
      rw [szv_pos (by omega)]; omega
    · rw [szv_neg (by omega)]
      simp
      try rw [szv_neg (by omega)]
      all_goals exact fun h => absurd h (by decide)
  · rw [szv_neg (by omega)]
    simp
    try rw [szv_neg (by omega)]
    all_goals exact fun h => absurd h (by decide)
theorem w_laws_eqView (a b : View) (ha : okView a) :
   VC Try.prog 11 [.agg ((cView a).map V.d), .agg ((cView b).map V.d)] (fun _ r => r = .d (.bool (plView a == plView b))) := by
  refine VC.of E s11 (by kernel_rfl) Try.func11 (by rfl) (by kernel_rfl) (by simp [Try.f11]) (by simp [Try.f11]) s11_ok fun B => ?_
  simp [Try.f11, cCnt, cI, cQuery, cS, cView, dSl, plView, plI, plStr]
  refine call_pure (w_laws_eqQuery a.q b.q ha.1) rfl (by simp) rfl fun hs0 hh0 => ?_
  by_cases e0 : plQuery a.q = plQuery b.q
  case neg => simp [e0]
  simp [e0]
  refine call_pure (w_laws_eqCountedRelation a.r b.r ha.2) rfl (by simp) rfl fun hs1 hh1 => ?_
  by_cases e1 : plCnt a.r = plCnt b.r
  case neg => simp [e1]
  simp [e1]

end Go.Proofs.Ytohbmjknaeenjaa

namespace Go.Proofs.Ytohbmjknaeenjaa
open Go.Vs Go.Proofs Go
set_option maxRecDepth 100000
set_option maxHeartbeats 1000000

theorem w_laws_toIntS (a : Sl (Int)) (ha : okS okI a) (hb : a.xs.length ≤ 1048576) :
   VC Try.prog 37 [.d (dSl cI a)] (fun n r => ∃ y : Sl (Int), r = .d (dSl cI y) ∧ plS plI y = plS plI a ∧ okS okI y ∧ Good (cS cI y) (whS whI y) n) := by
  refine VC.of E s37 (by kernel_rfl) Try.func37 (by rfl) (by kernel_rfl) (by simp [Try.f37]) (by simp [Try.f37]) s37_ok fun B => ?_
  simp [Try.f37, dSl]
  refine ⟨⟨by omega, by simp only [maxLen]; omega⟩, ?_⟩
  refine loop_rule (X := Nat) (fun i => i ≤ a.xs.length) (fun i => [(0, .d (.sl a.id a.T (a.xs.map cI))), (3, .own 7 0 a.xs.length), (4, .d (.int .i64 i))]) (fun i => [(7, some (.row 3 1 (fill [.int .i64 0] (a.xs.map cI) i)))]) (fun i => a.xs.length - i) 0 (by simp) (by simp) (by simp) ?_
  intro i hs t m hi hh
  by_cases hlt : i < a.xs.length
  · have hwi := wr1 (i := i) (by omega)
    simp [cI, hlt, hwi]
    refine back (i + 1) (by omega) (by omega) rfl (by simp) (by simp) ?_
    have := fill_set (z := [.int .i64 0]) (l := a.xs.map cI) (i := i) (by simpa using hlt) (by simp [hlt]; rfl)
    simp only [cI] at this ⊢
    simp [this]
  · have hn : i = a.xs.length := by omega
    subst hn
    have hf : fill [.int .i64 0] (a.xs.map cI) a.xs.length = a.xs.map cI := fill_all (by simp)
    simp [hf]
    intro γ hs' h1 hg
    obtain ⟨q1, q2⟩ := gam_at hg (k := 7) (T := 3) (sz := 1) (es := a.xs.map cI) (by simp)
    have q3 := gam_row hg (k := 7) (T := 3) (sz := 1) (es := a.xs.map cI) (by simp)
    clear hg
    refine ⟨⟨γ 7, some (3, 1), a.xs⟩, ⟨⟨rfl, rfl, List.take_of_length_le (by simp)⟩, rfl, ha, good_row (fun g hg => (q1 g hg).1) (by simpa using q2) q3 ⟨by simp, by simp⟩ (by simp [whI, whStr])⟩⟩
theorem w_laws_toIntSS (a : Sl (Sl (Int))) (ha : okS (okS okI) a) (hb : swS (swS swI) a ≤ 1048576) :
   VC Try.prog 38 [.d (dSl (cS cI) a)] (fun n r => ∃ y : Sl (Sl (Int)), r = .d (dSl (cS cI) y) ∧ plS (plS plI) y = plS (plS plI) a ∧ okS (okS okI) y ∧ Good (cS (cS cI) y) (whS (whS whI) y) n) := by
  refine VC.of E s38 (by kernel_rfl) Try.func38 (by rfl) (by kernel_rfl) (by simp [Try.f38]) (by simp [Try.f38]) s38_ok fun B => ?_
  have hwt : swS (swS swI) a = a.xs.length + sumW (swS swI) a.xs := rfl
  simp [Try.f38, dSl]
  refine ⟨⟨by omega, by simp only [maxLen]; omega⟩, ?_⟩
  refine loop_rule2 (X := Nat × List (Sl (Int))) (fun p h => p.1 ≤ a.xs.length ∧ p.2.length = p.1 ∧ p.2.map (plS plI) = (a.xs.map (plS plI)).take p.1 ∧ (∀ y ∈ p.2, okS okI y) ∧ GoodL (cS cI) (whS whI) B h p.2) (fun p => [(0, .d (.sl a.id a.T (a.xs.map (cS cI)))), (3, .own 7 0 a.xs.length), (4, .d (.int .i64 p.1))]) (fun p => [(7, some (.row 26 1 (p.2.map (cS cI) ++ List.replicate (a.xs.length - p.1) [.sl none none []])))]) (fun p => a.xs.length - p.1) (0, []) ⟨by simp, rfl, by simp, by simp, GoodL.nil⟩ (by simp) (by simp) ?_
  rintro ⟨i, ys⟩ hs t m ⟨hi, hyl, hpl, hok, hgd⟩ hh
  simp only at hi hyl hpl hok hgd
  by_cases hlt : i < a.xs.length
  · have hwi := wr1 (i := i) (by omega)
    have hmem : a.xs[i] ∈ a.xs := List.getElem_mem _
    have hsw := sumW_mem (swS swI) hmem
    simp [cS, hlt]
    refine call_some (w_laws_toIntS a.xs[i] (ha.2 _ hmem) (by simp only [swS] at hsw; omega)) rfl (by simp) fun n hs' r hn hn' hp hr => ?_
    obtain ⟨y, rfl, hy1, hy2, hy3⟩ := hp
    simp at hn
    have hr' : ∀ g ∈ idsL (cS cI y), g < hs' := fun g hg => hr g (by first | (simp [cS, V.ids, idsVL, idsL] at hg; done) | simpa [cS, V.ids, idsVL, idsL] using hg)
    have hyi : ys.length = i := hyl
    simp [cS, hlt, hwi, hyi, show i + (a.xs.length - i) = a.xs.length by omega, dSl]
    refine back2 (i + 1, ys ++ [y]) ⟨by omega, by simp [hyi], ?_, ?_, ?_⟩ (by simp <;> omega) rfl (by simp <;> omega) (by simp) ?_
    · simp only [List.map_append, hpl, List.map_cons, List.map_nil, hy1]
      rw [List.take_succ_eq_append_getElem (by simpa using hlt)]; simp
    · intro y' hy'
      rcases List.mem_append.1 hy' with h | h
      · exact hok y' h
      · rw [List.mem_singleton.1 h]; exact hy2
    · exact GoodL.snoc hgd (by omega) hn' hy3 hr'
    · simp [rep_set0 hlt, cS, dSl]
  · have hn : i = a.xs.length := by omega
    subst hn
    simp
    intro γ hs' h1 hg
    obtain ⟨q1, q2⟩ := gam_at hg (k := 7) (T := 26) (sz := 1) (es := ys.map (cS cI)) (by simp [upd])
    have q3 := gam_row hg (k := 7) (T := 26) (sz := 1) (es := ys.map (cS cI)) (by simp [upd])
    clear hg
    refine ⟨_, ⟨by omega, rfl⟩, ⟨γ 7, some (26, 1), ys⟩, ?_, by rw [List.take_of_length_le (by simp)] at hpl; exact hpl, ⟨by simp only [maxLen]; show ys.length ≤ _; omega, hok⟩, good_row (fun g hg => (q1 g hg).1) (by simpa using q2) q3 ⟨hgd.nd, hgd.lo⟩ hgd.wh⟩
    rw [if_pos hyl.symm, List.take_of_length_le (by simp [hyl])]
theorem w_laws_toRelation (a : Reln) (ha : okReln a) (hb : swReln a ≤ 1048576) :
   VC Try.prog 62 [.agg ((cReln a).map V.d)] (fun n r => ∃ y : Reln, r = .agg ((cReln y).map V.d) ∧ plReln y = plReln a ∧ okReln y ∧ Good (cReln y) (whReln y) n) := by
  refine VC.of E s62 (by kernel_rfl) Try.func62 (by rfl) (by kernel_rfl) (by simp [Try.f62]) (by simp [Try.f62]) s62_ok fun B => ?_
  have hwt : swReln a = swS (swS swI) a.rows := rfl
  simp [Try.f62, cI, cReln, cS, dSl]
  refine call_some (w_laws_toIntSS a.rows ha.2 (by have := hwt; omega)) rfl (by simp) fun n0 hs0 r0 hn0 hm0 hp0 hr0 => ?_
  obtain ⟨y0, rfl, hy0, hk0, hg0⟩ := hp0
  have hl0 : ∀ g ∈ idsL (cS (cS cI) y0), g < hs0 := fun g hg => hr0 g (by first | (simp [cS, V.ids, idsVL, idsL] at hg; done) | simpa [cS, V.ids, idsVL, idsL] using hg)
  simp at hn0
  simp [cS, dSl]
  refine ⟨⟨a.ar, y0⟩, ?_⟩
  refine ⟨by simp [cI, cReln, cS, dSl], by simp only [plReln, hy0], ⟨ha.1, hk0⟩, ?_⟩
  have G0 : Good (cI a.ar) (whI a.ar) B := good_I B a.ar
  have G1 : Good (cS (cS cI) y0) (whS (whS whI) y0) B := hg0.le (by omega)
  have U0 : ∀ g ∈ idsL (cI a.ar), g < B := by simp [cI, idsL, D.ids]
  have K1 : Good (cI a.ar ++ cS (cS cI) y0) ((whI a.ar) ∧ whS (whS whI) y0) B := Good.app G0 G1 (fun g h h' => by have h1 := U0 g h; have h2 := hg0.lo g h'; omega)
  have U1 : ∀ g ∈ idsL (cI a.ar ++ cS (cS cI) y0), g < hs0 := fun g h => by rw [idsL_app] at h; rcases List.mem_append.1 h with h | h; (have h1 := U0 g h; omega); exact hl0 g h
  exact ⟨K1.nd, K1.lo, by have h := K1.wh; exact ⟨h.1, h.2⟩⟩
theorem w_laws_toTable (a : Tab) (ha : okTab a) (hb : swTab a ≤ 1048576) :
   VC Try.prog 35 [.agg ((cTab a).map V.d)] (fun n r => ∃ y : Tab, r = .agg ((cTab y).map V.d) ∧ plTab y = plTab a ∧ okTab y ∧ Good (cTab y) (whTab y) n) := by
  refine VC.of E s35 (by kernel_rfl) Try.func35 (by rfl) (by kernel_rfl) (by simp [Try.f35]) (by simp [Try.f35]) s35_ok fun B => ?_
  have hwt : swTab a = swStr a.name + swReln a.rel := rfl
  simp [Try.f35, cI, cReln, cS, cStr, cTab, dSl]
  refine call_some (w_laws_toRelation a.rel ha.2 (by have := hwt; omega)) rfl (by simp) fun n0 hs0 r0 hn0 hm0 hp0 hr0 => ?_
  obtain ⟨y0, rfl, hy0, hk0, hg0⟩ := hp0
  have hl0 : ∀ g ∈ idsL (cReln y0), g < hs0 := fun g hg => hr0 g (by first | (simp [cI, cReln, cS, V.ids, idsVL, idsL] at hg; done) | simpa [cI, cReln, cS, V.ids, idsVL, idsL] using hg)
  simp at hn0
  simp [cI, cReln, cS, dSl]
  refine ⟨⟨a.name, y0⟩, ?_⟩
  refine ⟨by simp [cI, cReln, cS, cStr, cTab, dSl], by simp only [plTab, hy0], ⟨ha.1, hk0⟩, ?_⟩
  have G0 : Good (cStr a.name) (whStr a.name) B := good_Str B a.name
  have G1 : Good (cReln y0) (whReln y0) B := hg0.le (by omega)
  have U0 : ∀ g ∈ idsL (cStr a.name), g < B := by simp [cStr, idsL, D.ids]
  have K1 : Good (cStr a.name ++ cReln y0) ((whStr a.name) ∧ whReln y0) B := Good.app G0 G1 (fun g h h' => by have h1 := U0 g h; have h2 := hg0.lo g h'; omega)
  have U1 : ∀ g ∈ idsL (cStr a.name ++ cReln y0), g < hs0 := fun g h => by rw [idsL_app] at h; rcases List.mem_append.1 h with h | h; (have h1 := U0 g h; omega); exact hl0 g h
  exact ⟨K1.nd, K1.lo, by have h := K1.wh; exact ⟨h.1, h.2⟩⟩
theorem w_laws_toTableS (a : Sl (Tab)) (ha : okS okTab a) (hb : swS swTab a ≤ 1048576) :
   VC Try.prog 17 [.d (dSl cTab a)] (fun n r => ∃ y : Sl (Tab), r = .d (dSl cTab y) ∧ plS plTab y = plS plTab a ∧ okS okTab y ∧ Good (cS cTab y) (whS whTab y) n) := by
  refine VC.of E s17 (by kernel_rfl) Try.func17 (by rfl) (by kernel_rfl) (by simp [Try.f17]) (by simp [Try.f17]) s17_ok fun B => ?_
  have hwt : swS swTab a = a.xs.length + sumW swTab a.xs := rfl
  simp [Try.f17, dSl]
  refine ⟨⟨by omega, by simp only [maxLen]; omega⟩, ?_⟩
  refine loop_rule2 (X := Nat × List (Tab)) (fun p h => p.1 ≤ a.xs.length ∧ p.2.length = p.1 ∧ p.2.map plTab = (a.xs.map plTab).take p.1 ∧ (∀ y ∈ p.2, okTab y) ∧ GoodL cTab whTab B h p.2) (fun p => [(0, .d (.sl a.id a.T (a.xs.map cTab))), (3, .own 7 0 a.xs.length), (4, .d (.int .i64 p.1))]) (fun p => [(7, some (.row 80 3 (p.2.map cTab ++ List.replicate (a.xs.length - p.1) [.str [], .int .i64 0, .sl none none []])))]) (fun p => a.xs.length - p.1) (0, []) ⟨by simp, rfl, by simp, by simp, GoodL.nil⟩ (by simp) (by simp) ?_
  rintro ⟨i, ys⟩ hs t m ⟨hi, hyl, hpl, hok, hgd⟩ hh
  simp only at hi hyl hpl hok hgd
  by_cases hlt : i < a.xs.length
  · have hwi := wr1 (i := i) (by omega)
    have hmem : a.xs[i] ∈ a.xs := List.getElem_mem _
    have hsw := sumW_mem swTab hmem
    simp [cI, cReln, cS, cStr, cTab, hlt]
    refine call_some (w_laws_toTable a.xs[i] (ha.2 _ hmem) (by omega)) rfl (by simp) fun n hs' r hn hn' hp hr => ?_
    obtain ⟨y, rfl, hy1, hy2, hy3⟩ := hp
    simp at hn
    have hr' : ∀ g ∈ idsL (cTab y), g < hs' := fun g hg => hr g (by first | (simp [cI, cReln, cS, cStr, cTab, V.ids, idsVL, idsL] at hg; done) | simpa [cI, cReln, cS, cStr, cTab, V.ids, idsVL, idsL] using hg)
    have hyi : ys.length = i := hyl
    simp [cI, cReln, cS, cStr, cTab, hlt, hwi, hyi, show i + (a.xs.length - i) = a.xs.length by omega, dSl]
    refine back2 (i + 1, ys ++ [y]) ⟨by omega, by simp [hyi], ?_, ?_, ?_⟩ (by simp <;> omega) rfl (by simp <;> omega) (by simp) ?_
    · simp only [List.map_append, hpl, List.map_cons, List.map_nil, hy1]
      rw [List.take_succ_eq_append_getElem (by simpa using hlt)]; simp
    · intro y' hy'
      rcases List.mem_append.1 hy' with h | h
      · exact hok y' h
      · rw [List.mem_singleton.1 h]; exact hy2
    · exact GoodL.snoc hgd (by omega) hn' hy3 hr'
    · simp [rep_set0 hlt, cI, cReln, cS, cStr, cTab, dSl]
  · have hn : i = a.xs.length := by omega
    subst hn
    simp
    intro γ hs' h1 hg
    obtain ⟨q1, q2⟩ := gam_at hg (k := 7) (T := 80) (sz := 3) (es := ys.map cTab) (by simp [upd])
    have q3 := gam_row hg (k := 7) (T := 80) (sz := 3) (es := ys.map cTab) (by simp [upd])
    clear hg
    refine ⟨_, ⟨by omega, rfl⟩, ⟨γ 7, some (80, 3), ys⟩, ?_, by rw [List.take_of_length_le (by simp)] at hpl; exact hpl, ⟨by simp only [maxLen]; show ys.length ≤ _; omega, hok⟩, good_row (fun g hg => (q1 g hg).1) (by simpa using q2) q3 ⟨hgd.nd, hgd.lo⟩ hgd.wh⟩
    rw [if_pos hyl.symm, List.take_of_length_le (by simp [hyl])]
theorem w_laws_toDatabase (a : Db) (ha : okDb a) (hb : swDb a ≤ 1048576) :
   VC Try.prog 7 [.agg ((cDb a).map V.d)] (fun n r => ∃ y : Db, r = .agg ((cDb y).map V.d) ∧ plDb y = plDb a ∧ okDb y ∧ Good (cDb y) (whDb y) n) := by
  refine VC.of E s7 (by kernel_rfl) Try.func7 (by rfl) (by kernel_rfl) (by simp [Try.f7]) (by simp [Try.f7]) s7_ok fun B => ?_
  have hwt : swDb a = swS swTab a.tabs := rfl
  simp [Try.f7, cDb, cS, dSl]
  refine call_some (w_laws_toTableS a.tabs ha (by have := hwt; omega)) rfl (by simp) fun n0 hs0 r0 hn0 hm0 hp0 hr0 => ?_
  obtain ⟨y0, rfl, hy0, hk0, hg0⟩ := hp0
  have hl0 : ∀ g ∈ idsL (cS cTab y0), g < hs0 := fun g hg => hr0 g (by first | (simp [cS, V.ids, idsVL, idsL] at hg; done) | simpa [cS, V.ids, idsVL, idsL] using hg)
  simp at hn0
  simp [cS, dSl]
  refine ⟨⟨y0⟩, ?_⟩
  refine ⟨by simp [cDb, cS, dSl], by simp only [plDb, hy0], hk0, ?_⟩
  have G0 : Good (cS cTab y0) (whS whTab y0) B := hg0.le (by omega)
  have U0 : ∀ g ∈ idsL (cS cTab y0), g < hs0 := hl0
  exact G0
theorem w_laws_toCountedRelation (a : Cnt) (ha : okCnt a) (hb : swCnt a ≤ 1048576) :
   VC Try.prog 19 [.agg ((cCnt a).map V.d)] (fun n r => ∃ y : Cnt, r = .agg ((cCnt y).map V.d) ∧ plCnt y = plCnt a ∧ okCnt y ∧ Good (cCnt y) (whCnt y) n) := by
  refine VC.of E s19 (by kernel_rfl) Try.func19 (by rfl) (by kernel_rfl) (by simp [Try.f19]) (by simp [Try.f19]) s19_ok fun B => ?_
  have hwt : swCnt a = swS (swS swI) a.rows + swS swI a.cs := rfl
  simp [Try.f19, cCnt, cI, cS, dSl]
  refine call_some (w_laws_toIntSS a.rows ha.2.1 (by have := hwt; omega)) rfl (by simp) fun n0 hs0 r0 hn0 hm0 hp0 hr0 => ?_
  obtain ⟨y0, rfl, hy0, hk0, hg0⟩ := hp0
  have hl0 : ∀ g ∈ idsL (cS (cS cI) y0), g < hs0 := fun g hg => hr0 g (by first | (simp [cS, V.ids, idsVL, idsL] at hg; done) | simpa [cS, V.ids, idsVL, idsL] using hg)
  simp at hn0
  simp [cS, dSl]
  refine call_some (w_laws_toIntS a.cs ha.2.2 (by have := hwt; simp only [swS] at this; omega)) rfl (by simp) fun n1 hs1 r1 hn1 hm1 hp1 hr1 => ?_
  obtain ⟨y1, rfl, hy1, hk1, hg1⟩ := hp1
  have hl1 : ∀ g ∈ idsL (cS cI y1), g < hs1 := fun g hg => hr1 g (by first | (simp [cS, V.ids, idsVL, idsL] at hg; done) | simpa [cS, V.ids, idsVL, idsL] using hg)
  simp at hn1
  simp [cS, dSl]
  refine ⟨⟨a.ar, y0, y1⟩, ?_⟩
  refine ⟨by simp [cCnt, cI, cS, dSl], by simp only [plCnt, hy0, hy1], ⟨ha.1, hk0, hk1⟩, ?_⟩
  have G0 : Good (cI a.ar) (whI a.ar) B := good_I B a.ar
  have G1 : Good (cS (cS cI) y0) (whS (whS whI) y0) B := hg0.le (by omega)
  have G2 : Good (cS cI y1) (whS whI y1) B := hg1.le (by omega)
  have U0 : ∀ g ∈ idsL (cI a.ar), g < B := by simp [cI, idsL, D.ids]
  have K1 : Good (cI a.ar ++ cS (cS cI) y0) ((whI a.ar) ∧ whS (whS whI) y0) B := Good.app G0 G1 (fun g h h' => by have h1 := U0 g h; have h2 := hg0.lo g h'; omega)
  have U1 : ∀ g ∈ idsL (cI a.ar ++ cS (cS cI) y0), g < hs0 := fun g h => by rw [idsL_app] at h; rcases List.mem_append.1 h with h | h; (have h1 := U0 g h; omega); exact hl0 g h
  have K2 : Good (cI a.ar ++ cS (cS cI) y0 ++ cS cI y1) (((whI a.ar) ∧ whS (whS whI) y0) ∧ whS whI y1) B := Good.app K1 G2 (fun g h h' => by have h1 := U1 g h; have h2 := hg1.lo g h'; omega)
  have U2 : ∀ g ∈ idsL (cI a.ar ++ cS (cS cI) y0 ++ cS cI y1), g < hs1 := fun g h => by rw [idsL_app] at h; rcases List.mem_append.1 h with h | h; (have h1 := U1 g h; omega); exact hl1 g h
  exact ⟨K2.nd, K2.lo, by have h := K2.wh; exact ⟨h.1.1, h.1.2, h.2⟩⟩
theorem w_laws_toAtom (a : Atom) (ha : okAtom a) (hb : swAtom a ≤ 1048576) :
   VC Try.prog 63 [.agg ((cAtom a).map V.d)] (fun n r => ∃ y : Atom, r = .agg ((cAtom y).map V.d) ∧ plAtom y = plAtom a ∧ okAtom y ∧ Good (cAtom y) (whAtom y) n) := by
  refine VC.of E s63 (by kernel_rfl) Try.func63 (by rfl) (by kernel_rfl) (by simp [Try.f63]) (by simp [Try.f63]) s63_ok fun B => ?_
  have hwt : swAtom a = swStr a.rel + swS swI a.vars := rfl
  simp [Try.f63, cAtom, cS, cStr, dSl]
  refine call_some (w_laws_toIntS a.vars ha.2 (by have := hwt; simp only [swS] at this; omega)) rfl (by simp) fun n0 hs0 r0 hn0 hm0 hp0 hr0 => ?_
  obtain ⟨y0, rfl, hy0, hk0, hg0⟩ := hp0
  have hl0 : ∀ g ∈ idsL (cS cI y0), g < hs0 := fun g hg => hr0 g (by first | (simp [cS, V.ids, idsVL, idsL] at hg; done) | simpa [cS, V.ids, idsVL, idsL] using hg)
  simp at hn0
  simp [cS, dSl]
  refine ⟨⟨a.rel, y0⟩, ?_⟩
  refine ⟨by simp [cAtom, cS, cStr, dSl], by simp only [plAtom, hy0], ⟨ha.1, hk0⟩, ?_⟩
  have G0 : Good (cStr a.rel) (whStr a.rel) B := good_Str B a.rel
  have G1 : Good (cS cI y0) (whS whI y0) B := hg0.le (by omega)
  have U0 : ∀ g ∈ idsL (cStr a.rel), g < B := by simp [cStr, idsL, D.ids]
  have K1 : Good (cStr a.rel ++ cS cI y0) ((whStr a.rel) ∧ whS whI y0) B := Good.app G0 G1 (fun g h h' => by have h1 := U0 g h; have h2 := hg0.lo g h'; omega)
  have U1 : ∀ g ∈ idsL (cStr a.rel ++ cS cI y0), g < hs0 := fun g h => by rw [idsL_app] at h; rcases List.mem_append.1 h with h | h; (have h1 := U0 g h; omega); exact hl0 g h
  exact ⟨K1.nd, K1.lo, by have h := K1.wh; exact ⟨h.1, h.2⟩⟩
theorem w_laws_toAtomS (a : Sl (Atom)) (ha : okS okAtom a) (hb : swS swAtom a ≤ 1048576) :
   VC Try.prog 36 [.d (dSl cAtom a)] (fun n r => ∃ y : Sl (Atom), r = .d (dSl cAtom y) ∧ plS plAtom y = plS plAtom a ∧ okS okAtom y ∧ Good (cS cAtom y) (whS whAtom y) n) := by
  refine VC.of E s36 (by kernel_rfl) Try.func36 (by rfl) (by kernel_rfl) (by simp [Try.f36]) (by simp [Try.f36]) s36_ok fun B => ?_
  have hwt : swS swAtom a = a.xs.length + sumW swAtom a.xs := rfl
  simp [Try.f36, dSl]
  refine ⟨⟨by omega, by simp only [maxLen]; omega⟩, ?_⟩
  refine loop_rule2 (X := Nat × List (Atom)) (fun p h => p.1 ≤ a.xs.length ∧ p.2.length = p.1 ∧ p.2.map plAtom = (a.xs.map plAtom).take p.1 ∧ (∀ y ∈ p.2, okAtom y) ∧ GoodL cAtom whAtom B h p.2) (fun p => [(0, .d (.sl a.id a.T (a.xs.map cAtom))), (3, .own 7 0 a.xs.length), (4, .d (.int .i64 p.1))]) (fun p => [(7, some (.row 99 2 (p.2.map cAtom ++ List.replicate (a.xs.length - p.1) [.str [], .sl none none []])))]) (fun p => a.xs.length - p.1) (0, []) ⟨by simp, rfl, by simp, by simp, GoodL.nil⟩ (by simp) (by simp) ?_
  rintro ⟨i, ys⟩ hs t m ⟨hi, hyl, hpl, hok, hgd⟩ hh
  simp only at hi hyl hpl hok hgd
  by_cases hlt : i < a.xs.length
  · have hwi := wr1 (i := i) (by omega)
    have hmem : a.xs[i] ∈ a.xs := List.getElem_mem _
    have hsw := sumW_mem swAtom hmem
    simp [cAtom, cS, cStr, hlt]
    refine call_some (w_laws_toAtom a.xs[i] (ha.2 _ hmem) (by omega)) rfl (by simp) fun n hs' r hn hn' hp hr => ?_
    obtain ⟨y, rfl, hy1, hy2, hy3⟩ := hp
    simp at hn
    have hr' : ∀ g ∈ idsL (cAtom y), g < hs' := fun g hg => hr g (by first | (simp [cAtom, cS, cStr, V.ids, idsVL, idsL] at hg; done) | simpa [cAtom, cS, cStr, V.ids, idsVL, idsL] using hg)
    have hyi : ys.length = i := hyl
    simp [cAtom, cS, cStr, hlt, hwi, hyi, show i + (a.xs.length - i) = a.xs.length by omega, dSl]
    refine back2 (i + 1, ys ++ [y]) ⟨by omega, by simp [hyi], ?_, ?_, ?_⟩ (by simp <;> omega) rfl (by simp <;> omega) (by simp) ?_
    · simp only [List.map_append, hpl, List.map_cons, List.map_nil, hy1]
      rw [List.take_succ_eq_append_getElem (by simpa using hlt)]; simp
    · intro y' hy'
      rcases List.mem_append.1 hy' with h | h
      · exact hok y' h
      · rw [List.mem_singleton.1 h]; exact hy2
    · exact GoodL.snoc hgd (by omega) hn' hy3 hr'
    · simp [rep_set0 hlt, cAtom, cS, cStr, dSl]
  · have hn : i = a.xs.length := by omega
    subst hn
    simp
    intro γ hs' h1 hg
    obtain ⟨q1, q2⟩ := gam_at hg (k := 7) (T := 99) (sz := 2) (es := ys.map cAtom) (by simp [upd])
    have q3 := gam_row hg (k := 7) (T := 99) (sz := 2) (es := ys.map cAtom) (by simp [upd])
    clear hg
    refine ⟨_, ⟨by omega, rfl⟩, ⟨γ 7, some (99, 2), ys⟩, ?_, by rw [List.take_of_length_le (by simp)] at hpl; exact hpl, ⟨by simp only [maxLen]; show ys.length ≤ _; omega, hok⟩, good_row (fun g hg => (q1 g hg).1) (by simpa using q2) q3 ⟨hgd.nd, hgd.lo⟩ hgd.wh⟩
    rw [if_pos hyl.symm, List.take_of_length_le (by simp [hyl])]
theorem w_laws_toQuery (a : Query) (ha : okQuery a) (hb : swQuery a ≤ 1048576) :
   VC Try.prog 18 [.agg ((cQuery a).map V.d)] (fun n r => ∃ y : Query, r = .agg ((cQuery y).map V.d) ∧ plQuery y = plQuery a ∧ okQuery y ∧ Good (cQuery y) (whQuery y) n) := by
  refine VC.of E s18 (by kernel_rfl) Try.func18 (by rfl) (by kernel_rfl) (by simp [Try.f18]) (by simp [Try.f18]) s18_ok fun B => ?_
  have hwt : swQuery a = swS swAtom a.atoms + swS swI a.out := rfl
  simp [Try.f18, cI, cQuery, cS, dSl]
  refine call_some (w_laws_toAtomS a.atoms ha.2.1 (by have := hwt; omega)) rfl (by simp) fun n0 hs0 r0 hn0 hm0 hp0 hr0 => ?_
  obtain ⟨y0, rfl, hy0, hk0, hg0⟩ := hp0
  have hl0 : ∀ g ∈ idsL (cS cAtom y0), g < hs0 := fun g hg => hr0 g (by first | (simp [cS, V.ids, idsVL, idsL] at hg; done) | simpa [cS, V.ids, idsVL, idsL] using hg)
  simp at hn0
  simp [cS, dSl]
  refine call_some (w_laws_toIntS a.out ha.2.2 (by have := hwt; simp only [swS] at this; omega)) rfl (by simp) fun n1 hs1 r1 hn1 hm1 hp1 hr1 => ?_
  obtain ⟨y1, rfl, hy1, hk1, hg1⟩ := hp1
  have hl1 : ∀ g ∈ idsL (cS cI y1), g < hs1 := fun g hg => hr1 g (by first | (simp [cS, V.ids, idsVL, idsL] at hg; done) | simpa [cS, V.ids, idsVL, idsL] using hg)
  simp at hn1
  simp [cS, dSl]
  refine ⟨⟨a.n, y0, y1⟩, ?_⟩
  refine ⟨by simp [cI, cQuery, cS, dSl], by simp only [plQuery, hy0, hy1], ⟨ha.1, hk0, hk1⟩, ?_⟩
  have G0 : Good (cI a.n) (whI a.n) B := good_I B a.n
  have G1 : Good (cS cAtom y0) (whS whAtom y0) B := hg0.le (by omega)
  have G2 : Good (cS cI y1) (whS whI y1) B := hg1.le (by omega)
  have U0 : ∀ g ∈ idsL (cI a.n), g < B := by simp [cI, idsL, D.ids]
  have K1 : Good (cI a.n ++ cS cAtom y0) ((whI a.n) ∧ whS whAtom y0) B := Good.app G0 G1 (fun g h h' => by have h1 := U0 g h; have h2 := hg0.lo g h'; omega)
  have U1 : ∀ g ∈ idsL (cI a.n ++ cS cAtom y0), g < hs0 := fun g h => by rw [idsL_app] at h; rcases List.mem_append.1 h with h | h; (have h1 := U0 g h; omega); exact hl0 g h
  have K2 : Good (cI a.n ++ cS cAtom y0 ++ cS cI y1) (((whI a.n) ∧ whS whAtom y0) ∧ whS whI y1) B := Good.app K1 G2 (fun g h h' => by have h1 := U1 g h; have h2 := hg1.lo g h'; omega)
  have U2 : ∀ g ∈ idsL (cI a.n ++ cS cAtom y0 ++ cS cI y1), g < hs1 := fun g h => by rw [idsL_app] at h; rcases List.mem_append.1 h with h | h; (have h1 := U1 g h; omega); exact hl1 g h
  exact ⟨K2.nd, K2.lo, by have h := K2.wh; exact ⟨h.1.1, h.1.2, h.2⟩⟩
theorem w_laws_toView (a : View) (ha : okView a) (hb : swView a ≤ 1048576) :
   VC Try.prog 8 [.agg ((cView a).map V.d)] (fun n r => ∃ y : View, r = .agg ((cView y).map V.d) ∧ plView y = plView a ∧ okView y ∧ Good (cView y) (whView y) n) := by
  refine VC.of E s8 (by kernel_rfl) Try.func8 (by rfl) (by kernel_rfl) (by simp [Try.f8]) (by simp [Try.f8]) s8_ok fun B => ?_
  have hwt : swView a = swQuery a.q + swCnt a.r := rfl
  simp [Try.f8, cCnt, cI, cQuery, cS, cView, dSl]
  refine call_some (w_laws_toQuery a.q ha.1 (by have := hwt; omega)) rfl (by simp) fun n0 hs0 r0 hn0 hm0 hp0 hr0 => ?_
  obtain ⟨y0, rfl, hy0, hk0, hg0⟩ := hp0
  have hl0 : ∀ g ∈ idsL (cQuery y0), g < hs0 := fun g hg => hr0 g (by first | (simp [cI, cQuery, cS, V.ids, idsVL, idsL] at hg; done) | simpa [cI, cQuery, cS, V.ids, idsVL, idsL] using hg)
  simp at hn0
  simp [cI, cQuery, cS, dSl]
  refine call_some (w_laws_toCountedRelation a.r ha.2 (by have := hwt; omega)) rfl (by simp) fun n1 hs1 r1 hn1 hm1 hp1 hr1 => ?_
  obtain ⟨y1, rfl, hy1, hk1, hg1⟩ := hp1
  have hl1 : ∀ g ∈ idsL (cCnt y1), g < hs1 := fun g hg => hr1 g (by first | (simp [cCnt, cI, cS, V.ids, idsVL, idsL] at hg; done) | simpa [cCnt, cI, cS, V.ids, idsVL, idsL] using hg)
  simp at hn1
  simp [cCnt, cI, cS, dSl]
  refine ⟨⟨y0, y1⟩, ?_⟩
  refine ⟨by simp [cCnt, cI, cQuery, cS, cView, dSl], by simp only [plView, hy0, hy1], ⟨hk0, hk1⟩, ?_⟩
  have G0 : Good (cQuery y0) (whQuery y0) B := hg0.le (by omega)
  have G1 : Good (cCnt y1) (whCnt y1) B := hg1.le (by omega)
  have U0 : ∀ g ∈ idsL (cQuery y0), g < hs0 := hl0
  have K1 : Good (cQuery y0 ++ cCnt y1) ((whQuery y0) ∧ whCnt y1) B := Good.app G0 G1 (fun g h h' => by have h1 := U0 g h; have h2 := hg1.lo g h'; omega)
  have U1 : ∀ g ∈ idsL (cQuery y0 ++ cCnt y1), g < hs1 := fun g h => by rw [idsL_app] at h; rcases List.mem_append.1 h with h | h; (have h1 := U0 g h; omega); exact hl1 g h
  exact ⟨K1.nd, K1.lo, by have h := K1.wh; exact ⟨h.1, h.2⟩⟩

end Go.Proofs.Ytohbmjknaeenjaa

namespace Go.Proofs.Ytohbmjknaeenjaa
open Go.Vs Go.Proofs Go
set_option maxRecDepth 100000
set_option maxHeartbeats 1000000



end Go.Proofs.Ytohbmjknaeenjaa

namespace Go.Proofs.Ytohbmjknaeenjaa
open Go.Vs Go.Proofs Go
set_option maxRecDepth 100000
set_option maxHeartbeats 1000000


end Go.Proofs.Ytohbmjknaeenjaa

namespace Go.Proofs.Ytohbmjknaeenjaa
open Go.Vs Go.Proofs Go
set_option maxRecDepth 100000
set_option maxHeartbeats 1000000

attribute [simp] plI_id plStr_id map_plI map_plStr pS cP cI cStr cU8 cB
theorem w_impl_within (n lo hi : Int) : VC Try.prog 93 [.d (.int .i64 n), .d (.int .i64 lo), .d (.int .i64 hi)] (fun _ r => r = .d (.bool (inR n lo hi))) := by
  refine VC.ofL EP s93 (by kernel_rfl) Try.func93 (by rfl) (by kernel_rfl) (by simp [Try.f93]) (by simp [Try.f93]) s93_ok fun B hl => ?_
  by_cases h : lo ≤ n
  · simp [Try.f93, inR, h]
  · simp [Try.f93, inR, h]
theorem w_spec_l1In (n lo hi : Int) : VC Try.prog 58 [.d (.int .i64 n), .d (.int .i64 lo), .d (.int .i64 hi)] (fun _ r => r = .d (.bool (inR n lo hi))) := by
  refine VC.ofL EP s58 (by kernel_rfl) Try.func58 (by rfl) (by kernel_rfl) (by simp [Try.f58]) (by simp [Try.f58]) s58_ok fun B hl => ?_
  by_cases h : lo ≤ n
  · simp [Try.f58, inR, h]
  · simp [Try.f58, inR, h]
theorem w_impl_AreValidValues (xs : List Int) : VC Try.prog 100 [.d (pS cI xs)] (fun _ r => r = .d (.bool (valsOk xs))) := by
  refine VC.ofL EP s100 (by kernel_rfl) Try.func100 (by rfl) (by kernel_rfl) (by simp [Try.f100]) (by simp [Try.f100]) s100_ok fun B hl => ?_
  simp [pS, maxLen] at hl
  simp [Try.f100, pS]
  refine loop_rule (X := Nat) (fun i => i ≤ xs.length ∧ (xs.take i).all (fun v => inR v 0 99) = true) (fun i => [(5, .d (.pl (xs.map cI))), (6, .d (.int .i64 xs.length)), (7, .d (.int .i64 i))]) (fun _ => []) (fun i => xs.length - i) 0 (by simp) (by simp) (by simp) ?_
  intro i hs t m hi hh
  by_cases hlt : i < xs.length
  · have hwi := wr1 (i := i) (by omega)
    have hst := all_step (p := fun v => inR v 0 99) hlt
    rw [hi.2, Bool.true_and] at hst
    have hbad : inR xs[i] 0 99 = false → valsOk xs = false := all_bad (p := fun v => inR v 0 99) hlt
    simp [hlt, cI]
    refine call_f (w_impl_within xs[i] 0 99) (by simp) rfl fun hs1 hh1 => ?_
    cases hc : inR xs[i] 0 99
    · simp [hbad hc]
    · simp [hwi]
      simp at hh1
      exact back (i + 1) ⟨by omega, List.all_eq_true.1 (hst.trans hc)⟩ (by omega) rfl (by simp <;> omega) (by simp) (by simp)
  · have hd : valsOk xs = true := all_done (by omega) hi.2
    simp [hlt, hd]

end Go.Proofs.Ytohbmjknaeenjaa

namespace Go.Proofs.Ytohbmjknaeenjaa
open Go.Vs Go.Proofs Go
set_option maxRecDepth 100000
set_option maxHeartbeats 1000000

theorem w_spec_AreValidValues (xs : List Int) : VC Try.prog 79 [.d (pS cI xs)] (fun _ r => r = .d (.bool (valsOk xs))) := by
  refine VC.ofL EP s79 (by kernel_rfl) Try.func79 (by rfl) (by kernel_rfl) (by simp [Try.f79]) (by simp [Try.f79]) s79_ok fun B hl => ?_
  simp [pS, maxLen] at hl
  simp [Try.f79, pS]
  refine loop_rule (X := Nat) (fun i => i ≤ xs.length ∧ (xs.take i).all (fun v => inR v 0 99) = true) (fun i => [(0, .d (.pl (xs.map cI))), (3, .d (.int .i64 i))]) (fun _ => []) (fun i => xs.length - i) 0 (by simp) (by simp) (by simp) ?_
  intro i hs t m hi hh
  by_cases hlt : i < xs.length
  · have hwi := wr1 (i := i) (by omega)
    have hst := all_step (p := fun v => inR v 0 99) hlt
    rw [hi.2, Bool.true_and] at hst
    have hbad : inR xs[i] 0 99 = false → valsOk xs = false := all_bad (p := fun v => inR v 0 99) hlt
    simp [hlt, cI]
    refine call_f (w_spec_l1In xs[i] 0 99) (by simp) rfl fun hs1 hh1 => ?_
    simp at hh1
    cases hc : inR xs[i] 0 99
    · simp [hbad hc]
    · simp [hwi]
      exact back (i + 1) ⟨by omega, List.all_eq_true.1 (hst.trans hc)⟩ (by omega) rfl (by simp <;> omega) (by simp) (by simp)
  · have hd : valsOk xs = true := all_done (by omega) hi.2
    simp [hlt, hd]
theorem w_spec_CompareRows (a b : List Int) : VC Try.prog 34 [.d (pS cI a), .d (pS cI b)] (fun _ r => r = .d (.int .i64 (cmpL a b))) := by
  refine VC.ofL EP s34 (by kernel_rfl) Try.func34 (by rfl) (by kernel_rfl) (by simp [Try.f34]) (by simp [Try.f34]) s34_ok fun B hl => ?_
  simp [pS, maxLen, cI] at hl
  simp [Try.f34, s34_4, s34_6, pS]
  refine loop_rule (X := Nat) (fun i => i ≤ a.length ∧ i ≤ b.length ∧ cmpL a b = cmpL (a.drop i) (b.drop i)) (fun i => [(0, .d (.pl (a.map cI))), (1, .d (.pl (b.map cI))), (5, .d (.int .i64 i))]) (fun _ => []) (fun i => a.length - i) 0 (by simp) (by simp) (by simp) ?_
  intro i hs t m hi hh
  by_cases hlt : i < a.length
  · by_cases hlb : i < b.length
    · have hwi := wr1 (i := i) (by omega)
      have hc := cmpL_drop hlt hlb
      rw [← hi.2.2] at hc
      by_cases h1 : a[i] < b[i]
      · simp [cI, s34_4, s34_6, hlt, hlb, h1, hc]
      · by_cases h2 : b[i] < a[i]
        · simp [cI, s34_4, s34_6, hlt, hlb, h1, h2, hc]
        · simp only [h1, h2, if_false] at hc
          simp [cI, s34_4, s34_6, hlt, hlb, h1, h2, hwi]
          exact back (i + 1) ⟨by omega, by omega, hc⟩ (by omega) rfl (by simp) (by simp) (by simp)
    · have he := cmpL_end hi.1 hi.2.1 (by omega)
      rw [← hi.2.2] at he
      by_cases h1 : a.length < b.length
      · simp [hlt, hlb, h1, he]
      · by_cases h2 : b.length < a.length <;> simp [hlt, hlb, h1, h2, he]
  · have he := cmpL_end hi.1 hi.2.1 (by omega)
    rw [← hi.2.2] at he
    by_cases h1 : a.length < b.length
    · simp [hlt, h1, he]
    · by_cases h2 : b.length < a.length <;> simp [hlt, h1, h2, he]
theorem w_impl_compareInts (x y : Int) : VC Try.prog 99 [.d (.int .i64 x), .d (.int .i64 y)] (fun _ r => r = .d (.int .i64 (if x < y then -1 else if y < x then 1 else 0))) := by
  refine VC.ofL EP s99 (by kernel_rfl) Try.func99 (by rfl) (by kernel_rfl) (by simp [Try.f99]) (by simp [Try.f99]) s99_ok fun B hl => ?_
  by_cases h1 : x < y
  · simp [Try.f99, h1]
  · by_cases h2 : y < x <;> simp [Try.f99, h1, h2]
theorem w_impl_CompareRows (a b : List Int) : VC Try.prog 91 [.d (pS cI a), .d (pS cI b)] (fun _ r => r = .d (.int .i64 (cmpL a b))) := by
  refine VC.ofL EP s91 (by kernel_rfl) Try.func91 (by rfl) (by kernel_rfl) (by simp [Try.f91]) (by simp [Try.f91]) s91_ok fun B hl => ?_
  simp [pS, maxLen, cI] at hl
  simp [Try.f91, s91_4, s91_5, pS]
  refine loop_rule (X := Nat) (fun i => i ≤ a.length ∧ i ≤ b.length ∧ cmpL a b = cmpL (a.drop i) (b.drop i)) (fun i => [(0, .d (.pl (a.map cI))), (1, .d (.pl (b.map cI))), (5, .d (.int .i64 i))]) (fun _ => []) (fun i => a.length - i) 0 (by simp) (by simp) (by simp) ?_
  intro i hs t m hi hh
  by_cases hlt : i < a.length ∧ i < b.length
  · obtain ⟨hlt, hlb⟩ := hlt
    have hwi := wr1 (i := i) (by omega)
    have hc := cmpL_drop hlt hlb
    rw [← hi.2.2] at hc
    by_cases he : a[i] = b[i]
    · rw [if_neg (by omega), if_neg (by omega)] at hc
      simp [cI, s91_4, s91_5, hlt, hlb, hwi, he]
      exact back (i + 1) ⟨by omega, by omega, hc⟩ (by omega) rfl (by simp) (by simp) (by simp)
    · simp [cI, s91_4, s91_5, hlt, hlb, hwi, he]
      refine call_f (w_impl_compareInts a[i] b[i]) (by simp) rfl fun hs1 hh1 => ?_
      have : (if a[i] < b[i] then (-1 : Int) else if b[i] < a[i] then 1 else 0) = cmpL a b := by rw [hc]; by_cases h1 : a[i] < b[i] <;> simp [h1]; omega
      simp [this]
  · have he := cmpL_end hi.1 hi.2.1 hlt
    rw [← hi.2.2] at he
    have hcm : (if (a.length : Int) < b.length then (-1 : Int) else if (b.length : Int) < a.length then 1 else 0) = cmpL a b := by rw [he]; simp
    by_cases hl1 : i < a.length
    · have hl2 : ¬ i < b.length := fun h => hlt ⟨hl1, h⟩
      simp [hl1, hl2]
      refine call_f (w_impl_compareInts a.length b.length) (by simp) rfl fun hs1 hh1 => ?_
      simp only [hcm]
      simp
    · simp [hl1]
      refine call_f (w_impl_compareInts a.length b.length) (by simp) rfl fun hs1 hh1 => ?_
      simp only [hcm]
      simp

end Go.Proofs.Ytohbmjknaeenjaa

namespace Go.Proofs.Ytohbmjknaeenjaa
open Go.Vs Go.Proofs Go
set_option maxRecDepth 100000
set_option maxHeartbeats 1000000

theorem w_impl_rowsValid (ar : Int) (l : List (List Int)) : VC Try.prog 92 [.d (.int .i64 ar), .d (pS (cP cI) l)] (fun _ r => r = .d (.bool (rowsOk ar l))) := by
  refine VC.ofL EP s92 (by kernel_rfl) Try.func92 (by rfl) (by kernel_rfl) (by simp [Try.f92]) (by simp [Try.f92]) s92_ok fun B hl => ?_
  simp [pS, cP, cI, maxLen] at hl
  simp [Try.f92, pS]
  refine call_f (w_impl_within ar 0 5) (by simp) rfl fun hs0 hh0 => ?_
  simp at hh0
  cases h1 : inR ar 0 5
  · simp [rowsOk, h1]
  by_cases h2 : (4000 : Int) < l.length
  · simp [rowsOk, h2, show ¬ l.length ≤ 4000 by omega]
  have h2' : l.length ≤ 4000 := by omega
  simp [h2]
  refine loop_rule (X := Nat) (fun i => i ≤ l.length ∧ ∀ j, j < i → rowOk ar l j = true) (fun i => [(0, .d (.int .i64 ar)), (1, .d (.pl (l.map (cP cI)))), (15, .d (.pl (l.map (cP cI)))), (16, .d (.int .i64 l.length)), (17, .d (.int .i64 i))]) (fun _ => []) (fun i => l.length - i) 0 (by simp) (by simp) (by simp) ?_
  intro i hs t m hi hh
  by_cases hlt : i < l.length
  · have hwi := wr1 (i := i) (by omega)
    have hr : rowOk ar l i = (decide ((l[i].length : Int) = ar) && valsOk l[i] && (i == 0 || decide (cmpL (l.getD (i - 1) []) l[i] < 0))) := by simp [rowOk, hlt]
    have hbad := fun h => rows_bad (ar := ar) hlt h
    have step : rowOk ar l i = true → ∀ j, j < i + 1 → rowOk ar l j = true := fun h j hj => by
      rcases Nat.lt_succ_iff_lt_or_eq.1 hj with h' | h'
      · exact hi.2 j h'
      · rw [h']; exact h
    by_cases c1 : (l[i].length : Int) = ar
    case neg => simp [hlt, cP, pS, c1, hbad (by rw [hr]; simp [c1])]
    simp [hlt, cP, pS, c1]
    refine call_f (w_impl_AreValidValues l[i]) (by simp [pS]) rfl fun hs1 hh1 => ?_
    simp at hh1
    cases c2 : valsOk l[i]
    · simp [hbad (by rw [hr]; simp [c2])]
    by_cases c3 : i = 0
    · subst c3
      simp [hwi, show IntKind.i64.wrap 1 = 1 by decide]
      exact back 1 ⟨by omega, step (by rw [hr]; simp [c1, c2])⟩ (by omega) rfl (by simp <;> omega) (by simp [cP, pS, show IntKind.i64.wrap 1 = 1 by decide]) (by simp)
    · have hw1 : IntKind.i64.wrap ((i : Int) - 1) = ((i - 1 : Nat) : Int) := by rw [wrap64_of (by omega) (by omega)]; omega
      have hip : (0 : Int) < i := by omega
      have hlt1 : i - 1 < l.length := by omega
      have hg1 : l.getD (i - 1) [] = l[i - 1] := by simp [hlt1]
      rw [hg1] at hr
      simp [hip, hw1, hlt1, cP, pS, c3, show 0 < i by omega]
      refine call_f (w_impl_CompareRows l[i - 1] l[i]) (by simp [pS]) rfl fun hs2 hh2 => ?_
      simp at hh2
      by_cases c4 : cmpL l[i - 1] l[i] < 0
      · simp [hwi, show ¬ 0 ≤ cmpL l[i - 1] l[i] by omega]
        exact back (i + 1) ⟨by omega, step (by rw [hr]; simp [c1, c2, c4])⟩ (by omega) rfl (by simp <;> omega) (by simp [cP, pS]) (by simp)
      · simp [show 0 ≤ cmpL l[i - 1] l[i] by omega, hbad (by rw [hr]; simp [c3, c4])]
  · have hn : i = l.length := by omega
    have hd := rows_done h1 h2' (hn ▸ hi.2)
    simp [hlt, hd]
theorem w_impl_IsValidRelation (r : PReln) : VC Try.prog 69 [.agg ((eReln r).map .d)] (fun _ v => v = .d (.bool (rowsOk r.ar r.rows))) := by
  refine VC.ofL EP s69 (by kernel_rfl) Try.func69 (by rfl) (by kernel_rfl) (by simp [Try.f69]) (by simp [Try.f69]) s69_ok fun B hl => ?_
  simp [Try.f69, eReln, cI, cP]
  refine call_f (w_impl_rowsValid r.ar r.rows) (by simp [pS, cP]) rfl fun hs0 hh0 => ?_
  simp
theorem w_spec_IsValidRelation (r : PReln) : VC Try.prog 56 [.agg ((eReln r).map .d)] (fun _ v => v = .d (.bool (rowsOk r.ar r.rows))) := by
  obtain ⟨ar, l⟩ := r
  refine VC.ofL EP s56 (by kernel_rfl) Try.func56 (by rfl) (by kernel_rfl) (by simp [Try.f56]) (by simp [Try.f56]) s56_ok fun B hl => ?_
  simp [eReln, pS, cP, cI, maxLen] at hl
  simp [Try.f56, s56_6, eReln, cI, cP, pS]
  refine call_f (w_spec_l1In ar 0 5) (by simp) rfl fun hs0 hh0 => ?_
  simp at hh0
  cases h1 : inR ar 0 5
  · simp [rowsOk, h1]
  by_cases h2 : (4000 : Int) < l.length
  · simp [rowsOk, h2, show ¬ l.length ≤ 4000 by omega]
  have h2' : l.length ≤ 4000 := by omega
  simp [h2]
  refine loop_rule (X := Nat) (fun i => i ≤ l.length ∧ ∀ j, j < i → rowOk ar l j = true) (fun i => [(1, .ptr 1 0 0), (3, .d (.int .i64 i))]) (fun _ => [(1, some (.box [.d (.int .i64 ar), .d (.pl (l.map fun xs => [.pl (xs.map cI)]))]))]) (fun i => l.length - i) 0 (by simp) (by simp) (by simp [cI, cP, pS]) ?_
  intro i hs t m hi hh
  by_cases hlt : i < l.length
  · have hwi := wr1 (i := i) (by omega)
    have hr : rowOk ar l i = (decide ((l[i].length : Int) = ar) && valsOk l[i] && (i == 0 || decide (cmpL (l.getD (i - 1) []) l[i] < 0))) := by simp [rowOk, hlt]
    have hbad := fun h => rows_bad (ar := ar) hlt h
    have step : rowOk ar l i = true → ∀ j, j < i + 1 → rowOk ar l j = true := fun h j hj => by
      rcases Nat.lt_succ_iff_lt_or_eq.1 hj with h' | h'
      · exact hi.2 j h'
      · rw [h']; exact h
    by_cases c1 : (l[i].length : Int) = ar
    case neg => simp [hlt, s56_6, c1, hbad (by rw [hr]; simp [c1])]
    simp [hlt, s56_6, c1]
    refine call_f (w_spec_AreValidValues l[i]) (by simp [pS]) rfl fun hs1 hh1 => ?_
    simp at hh1
    cases c2 : valsOk l[i]
    · simp [hbad (by rw [hr]; simp [c2])]
    by_cases c3 : i = 0
    · subst c3
      simp [hwi, show IntKind.i64.wrap 1 = 1 by decide]
      exact back 1 ⟨by omega, step (by rw [hr]; simp [c1, c2])⟩ (by omega) rfl (by simp <;> omega) (by simp [show IntKind.i64.wrap 1 = 1 by decide]) (by simp)
    · have hw1 : IntKind.i64.wrap ((i : Int) - 1) = ((i - 1 : Nat) : Int) := by rw [wrap64_of (by omega) (by omega)]; omega
      have hip : (0 : Int) < i := by omega
      have hlt1 : i - 1 < l.length := by omega
      have hg1 : l.getD (i - 1) [] = l[i - 1] := by simp [hlt1]
      rw [hg1] at hr
      simp [hip, hw1, hlt1, hlt, c3, show 0 < i by omega]
      refine call_f (w_spec_CompareRows l[i - 1] l[i]) (by simp [pS]) rfl fun hs2 hh2 => ?_
      simp at hh2
      by_cases c4 : cmpL l[i - 1] l[i] < 0
      · simp [hwi, show ¬ 0 ≤ cmpL l[i - 1] l[i] by omega]
        exact back (i + 1) ⟨by omega, step (by rw [hr]; simp [c1, c2, c4])⟩ (by omega) rfl (by simp <;> omega) (by simp) (by simp)
      · simp [show 0 ≤ cmpL l[i - 1] l[i] by omega, hbad (by rw [hr]; simp [c3, c4])]
  · have hn : i = l.length := by omega
    have hd := rows_done h1 h2' (hn ▸ hi.2)
    simp [hlt, hd]

end Go.Proofs.Ytohbmjknaeenjaa

namespace Go.Proofs.Ytohbmjknaeenjaa
open Go.Vs Go.Proofs Go
set_option maxRecDepth 100000
set_option maxHeartbeats 1000000

theorem w_impl_place (l : List (List Int)) (row : List Int) (hb : l.length ≤ 4294967296) : VC Try.prog 94 [.d (pS (cP cI) l), .d (pS cI row)] (fun _ v => v = .tup [.d (.int .i64 (placeK l row)), .d (.bool (placeB l row))]) := by
  refine VC.ofL EP s94 (by kernel_rfl) Try.func94 (by rfl) (by kernel_rfl) (by simp [Try.f94]) (by simp [Try.f94]) s94_ok fun B hl => ?_
  simp [pS, cP, cI, maxLen] at hl
  simp [Try.f94, pS]
  refine loop_rule (X := Nat × Nat) (fun p => p.1 ≤ p.2 ∧ p.2 ≤ l.length ∧ bs l row p.1 p.2 = placeK l row) (fun p => [(0, .d (.pl (l.map (cP cI)))), (1, .d (.pl (row.map cI))), (6, .d (.int .i64 p.1)), (7, .d (.int .i64 p.2))]) (fun _ => []) (fun p => p.2 - p.1) (0, l.length) (by simp; rfl) (by simp) (by simp) ?_
  rintro ⟨lo, hi⟩ hs t m ⟨h1, h2, h3⟩ hh
  simp only at h1 h2 h3
  by_cases hlt : lo < hi
  · rw [bs_lt hlt] at h3
    have hm := mid64 (a := lo) (b := hi) (by omega) (by omega)
    have hml : (lo + hi) / 2 < l.length := by omega
    have hk1 : lo ≤ (lo + hi) / 2 ∧ (lo + hi) / 2 < hi := by omega
    generalize (lo + hi) / 2 = k at *
    have hg : l.getD k [] = l[k] := by simp [hml]
    simp [hlt, hm, hml, cP, pS]
    refine call_f (w_impl_CompareRows l[k] row) (by simp [pS]) rfl fun hs1 hh1 => ?_
    simp at hh1
    rw [hg] at h3
    by_cases hc : cmpL l[k] row < 0
    · rw [if_pos hc] at h3
      have hw := wr1 (i := k) (by omega)
      simp [hc, hw]
      exact back (k + 1, hi) ⟨by simp; omega, h2, h3⟩ (by simp; omega) rfl (by simp <;> omega) (by simp [cP, pS]) (by simp)
    · rw [if_neg hc] at h3
      simp [hc]
      exact back (lo, k) ⟨by simp; omega, by simp; omega, h3⟩ (by simp; omega) rfl (by simp <;> omega) (by simp [cP, pS]) (by simp)
  · rw [bs_ge hlt] at h3
    subst h3
    by_cases hk : placeK l row < l.length
    · simp [hlt, hk, cP, pS]
      refine call_f (w_impl_CompareRows l[placeK l row] row) (by simp [pS]) rfl fun hs1 hh1 => ?_
      simp [placeB, hk]
    · simp [hlt, hk, placeB]
theorem w_spec_l5Place (r : PReln) (row : List Int) (hb : r.rows.length ≤ 4294967296) : VC Try.prog 84 [.agg ((eReln r).map .d), .d (pS cI row)] (fun _ v => v = .tup [.d (.int .i64 (placeK r.rows row)), .d (.bool (placeB r.rows row))]) := by
  obtain ⟨ar, l⟩ := r
  simp only at hb ⊢
  refine VC.ofL EP s84 (by kernel_rfl) Try.func84 (by rfl) (by kernel_rfl) (by simp [Try.f84]) (by simp [Try.f84]) s84_ok fun B hl => ?_
  simp [eReln, pS, cP, cI, maxLen] at hl
  simp [Try.f84, eReln, cI, cP, pS]
  refine loop_rule (X := Nat × Nat) (fun p => p.1 ≤ p.2 ∧ p.2 ≤ l.length ∧ bs l row p.1 p.2 = placeK l row) (fun p => [(2, .ptr 2 0 0), (1, .d (.pl (row.map cI))), (6, .d (.int .i64 p.1)), (7, .d (.int .i64 p.2))]) (fun _ => [(2, some (.box [.d (.int .i64 ar), .d (.pl (l.map (cP cI)))]))]) (fun p => p.2 - p.1) (0, l.length) (by simp; rfl) (by simp [cI]) (by simp [cP, pS, cI]) ?_
  rintro ⟨lo, hi⟩ hs t m ⟨h1, h2, h3⟩ hh
  simp only at h1 h2 h3
  by_cases hlt : lo < hi
  · rw [bs_lt hlt] at h3
    have hm := mid64 (a := lo) (b := hi) (by omega) (by omega)
    have hml : (lo + hi) / 2 < l.length := by omega
    have hk1 : lo ≤ (lo + hi) / 2 ∧ (lo + hi) / 2 < hi := by omega
    generalize (lo + hi) / 2 = k at *
    have hg : l.getD k [] = l[k] := by simp [hml]
    simp [hlt, hm, hml, cP, pS]
    refine call_f (w_spec_CompareRows l[k] row) (by simp [pS]) rfl fun hs1 hh1 => ?_
    simp at hh1
    rw [hg] at h3
    by_cases hc : cmpL l[k] row < 0
    · rw [if_pos hc] at h3
      have hw := wr1 (i := k) (by omega)
      simp [hc, hw]
      exact back (k + 1, hi) ⟨by simp; omega, h2, h3⟩ (by simp; omega) rfl (by simp <;> omega) (by simp [cP, pS]) (by simp [cP, pS])
    · rw [if_neg hc] at h3
      simp [hc]
      exact back (lo, k) ⟨by simp; omega, by simp; omega, h3⟩ (by simp; omega) rfl (by simp <;> omega) (by simp [cP, pS]) (by simp [cP, pS])
  · rw [bs_ge hlt] at h3
    subst h3
    by_cases hk : placeK l row < l.length
    · simp [hlt, hk, cP, pS]
      refine call_f (w_spec_CompareRows l[placeK l row] row) (by simp [pS]) rfl fun hs1 hh1 => ?_
      simp [placeB, hk]
    · simp [hlt, hk, placeB]
theorem w_impl_IsValidCounted (c : PCnt) : VC Try.prog 71 [.agg ((eCnt c).map .d)] (fun _ v => v = .d (.bool (cntsOk c))) := by
  obtain ⟨ar, l, cs⟩ := c
  refine VC.ofL EP s71 (by kernel_rfl) Try.func71 (by rfl) (by kernel_rfl) (by simp [Try.f71]) (by simp [Try.f71]) s71_ok fun B hl => ?_
  simp [eCnt, pS, cP, cI, maxLen] at hl
  simp [Try.f71, eCnt, cI, cP, pS]
  refine call_f (w_impl_rowsValid ar l) (by simp [pS, cP, cI]) rfl fun hs0 hh0 => ?_
  simp at hh0
  cases h1 : rowsOk ar l
  · simp [cntsOk, h1]
  by_cases h2 : cs.length = l.length
  case neg => simp [h2, cntsOk, show ¬ l.length = cs.length by omega]
  simp [h2]
  refine loop_rule (X := Nat) (fun i => i ≤ cs.length ∧ (cs.take i).all cntOk = true) (fun i => [(21, .d (.pl (cs.map cI))), (22, .d (.int .i64 cs.length)), (23, .d (.int .i64 i))]) (fun _ => []) (fun i => cs.length - i) 0 (by simp) (by simp [cI, h2]) (by simp) ?_
  intro i hs t m hi hh
  by_cases hlt : i < cs.length
  · have hwi := wr1 (i := i) (by omega)
    have hst := all_step (p := cntOk) hlt
    rw [hi.2, Bool.true_and] at hst
    have hbad : cntOk cs[i] = false → cntsOk ⟨ar, l, cs⟩ = false := fun h => by simp only [cntsOk]; rw [all_bad (p := cntOk) hlt h]; simp
    by_cases h0 : cs[i] = 0
    · simp [hlt, cI, h0, hbad (by simp [cntOk, h0])]
    simp [hlt, cI, h0]
    refine call_f (w_impl_within cs[i] (-1000000) 1000000) (by simp) rfl fun hs1 hh1 => ?_
    simp at hh1
    cases hc : inR cs[i] (-1000000) 1000000
    · simp [hbad (by simp [cntOk, hc])]
    · simp [hwi]
      exact back (i + 1) ⟨by omega, List.all_eq_true.1 (hst.trans (by simp [cntOk, hc, h0]))⟩ (by omega) rfl (by simp <;> omega) (by simp [cI]) (by simp)
  · have hd : cs.all cntOk = true := all_done (by omega) hi.2
    have hf : cntsOk ⟨ar, l, cs⟩ = true := by simp only [cntsOk]; rw [hd]; simp [h1, h2]
    simp [hlt, hf]
theorem w_spec_IsValidCounted (c : PCnt) : VC Try.prog 59 [.agg ((eCnt c).map .d)] (fun _ v => v = .d (.bool (cntsOk c))) := by
  obtain ⟨ar, l, cs⟩ := c
  refine VC.ofL EP s59 (by kernel_rfl) Try.func59 (by rfl) (by kernel_rfl) (by simp [Try.f59]) (by simp [Try.f59]) s59_ok fun B hl => ?_
  simp [eCnt, pS, cP, cI, maxLen] at hl
  by_cases h2 : l.length = cs.length
  case neg => simp [Try.f59, eCnt, cI, cP, pS, h2, cntsOk]
  simp [Try.f59, eCnt, cI, cP, pS, h2]
  refine call_f (w_spec_IsValidRelation ⟨ar, l⟩) (by simp [eReln, pS, cP, cI]) rfl fun hs0 hh0 => ?_
  simp at hh0
  cases h1 : rowsOk ar l
  · simp [cntsOk, h1]
  simp
  refine loop_rule (X := Nat) (fun i => i ≤ cs.length ∧ (cs.take i).all cntOk = true) (fun i => [(1, .ptr 1 0 0), (3, .d (.int .i64 i))]) (fun _ => [(1, some (.box [.d (.int .i64 ar), .d (.pl (l.map (cP cI))), .d (.pl (cs.map cI))]))]) (fun i => cs.length - i) 0 (by simp) (by simp) (by simp [cI, cP, pS]) ?_
  intro i hs t m hi hh
  by_cases hlt : i < cs.length
  · have hwi := wr1 (i := i) (by omega)
    have hst := all_step (p := cntOk) hlt
    rw [hi.2, Bool.true_and] at hst
    have hbad : cntOk cs[i] = false → cntsOk ⟨ar, l, cs⟩ = false := fun h => by simp only [cntsOk]; rw [all_bad (p := cntOk) hlt h]; simp
    by_cases h0 : cs[i] = 0
    · simp [hlt, cI, h0, hbad (by simp [cntOk, h0])]
    simp [hlt, cI, h0]
    refine call_f (w_spec_l1In cs[i] (-1000000) 1000000) (by simp) rfl fun hs1 hh1 => ?_
    simp at hh1
    cases hc : inR cs[i] (-1000000) 1000000
    · simp [hbad (by simp [cntOk, hc])]
    · simp [hwi]
      exact back (i + 1) ⟨by omega, List.all_eq_true.1 (hst.trans (by simp [cntOk, hc, h0]))⟩ (by omega) rfl (by simp <;> omega) (by simp [cI]) (by simp [cI])
  · have hd : cs.all cntOk = true := all_done (by omega) hi.2
    have hf : cntsOk ⟨ar, l, cs⟩ = true := by simp only [cntsOk]; rw [hd]; simp [h1, h2]
    simp [hlt, hf]

end Go.Proofs.Ytohbmjknaeenjaa

namespace Go.Proofs.Ytohbmjknaeenjaa
open Go.Vs Go.Proofs Go
set_option maxRecDepth 100000
set_option maxHeartbeats 1000000


end Go.Proofs.Ytohbmjknaeenjaa

namespace Go.Proofs.Ytohbmjknaeenjaa
open Go.Vs Go.Proofs Go
set_option maxRecDepth 100000
set_option maxHeartbeats 1000000

section
attribute [local simp] plI_id plStr_id map_plI map_plStr pS cP cI cStr cU8 cB
theorem w_spec_l7Find (l : List Int) (v : Int) : VC Try.prog 83 [.d (pS cI l), .d (.int .i64 v)] (fun _ r => r = .d (.int .i64 (idxL l v))) := by
  refine VC.ofL EP s83 (by kernel_rfl) Try.func83 (by rfl) (by kernel_rfl) (by simp [Try.f83]) (by simp [Try.f83]) s83_ok fun B hl => ?_
  simp [pS, maxLen] at hl
  simp [Try.f83, ]
  refine loop_rule (X := Nat) (fun i => i ≤ l.length ∧ AllTo (fun x => !(x == v)) l i) (fun i => [(0, .d (.pl (l.map cI))), (1, .d (.int .i64 v)), (5, .d (.int .i64 i))]) (fun _ => []) (fun i => l.length - i) 0 ⟨by simp, allTo_zero⟩ (by simp) (by simp) ?_
  intro i hs t m hi hh
  by_cases hlt : i < l.length
  · have hwi := wr1 (i := i) (by omega)
    by_cases he : l[i] = v
    · have hx := idxL_at hi.2 hlt he
      simp [hlt, he, hx, ]
    · simp [hlt, he, hwi, ]
      exact back (i + 1) ⟨by omega, allTo_step hi.2 hlt (by simp [he])⟩ (by omega) rfl (by simp <;> omega) (by simp) (by simp)
  · have hx := (idxL_no (allTo_done hi.2 (by omega))).2
    simp [hlt, hx]
theorem w_impl_indexOf (l : List Int) (v : Int) : VC Try.prog 90 [.d (pS cI l), .d (.int .i64 v)] (fun _ r => r = .d (.int .i64 (idxL l v))) := by
  refine VC.ofL EP s90 (by kernel_rfl) Try.func90 (by rfl) (by kernel_rfl) (by simp [Try.f90]) (by simp [Try.f90]) s90_ok fun B hl => ?_
  simp [pS, maxLen] at hl
  simp [Try.f90, ]
  refine loop_rule (X := Nat) (fun i => i ≤ l.length ∧ AllTo (fun x => !(x == v)) l i) (fun i => [(1, .d (.int .i64 v)), (7, .d (.pl (l.map cI))), (8, .d (.int .i64 l.length)), (9, .d (.int .i64 i))]) (fun _ => []) (fun i => l.length - i) 0 ⟨by simp, allTo_zero⟩ (by simp) (by simp) ?_
  intro i hs t m hi hh
  by_cases hlt : i < l.length
  · have hwi := wr1 (i := i) (by omega)
    by_cases he : l[i] = v
    · have hx := idxL_at hi.2 hlt he
      simp [hlt, he, hx, ]
    · simp [hlt, he, hwi, ]
      exact back (i + 1) ⟨by omega, allTo_step hi.2 hlt (by simp [he])⟩ (by omega) rfl (by simp <;> omega) (by simp) (by simp)
  · have hx := (idxL_no (allTo_done hi.2 (by omega))).2
    simp [hlt, hx]
theorem w_impl_hasInt (l : List Int) (v : Int) : VC Try.prog 101 [.d (pS cI l), .d (.int .i64 v)] (fun _ r => r = .d (.bool (l.contains v))) := by
  refine VC.ofL EP s101 (by kernel_rfl) Try.func101 (by rfl) (by kernel_rfl) (by simp [Try.f101]) (by simp [Try.f101]) s101_ok fun B hl => ?_
  rw [← idxL_ge]
  simp [Try.f101, ]
  refine call_f (w_impl_indexOf l v) (by simp) rfl fun hs1 hh1 => ?_
  simp
theorem w_spec_ContainsVariable (a : PAtom) (v : Int) : VC Try.prog 82 [.agg ((eAtom a).map V.d), .d (.int .i64 v)] (fun _ r => r = .d (.bool (a.vars.contains v))) := by
  refine VC.ofL EP s82 (by kernel_rfl) Try.func82 (by rfl) (by kernel_rfl) (by simp [Try.f82]) (by simp [Try.f82]) s82_ok fun B hl => ?_
  obtain ⟨nm, l⟩ := a
  simp [pS, maxLen, eAtom] at hl
  simp [Try.f82, eAtom]
  refine loop_rule (X := Nat) (fun i => i ≤ l.length ∧ AllTo (fun x => !(x == v)) l i) (fun i => [(1, .d (.int .i64 v)), (2, .ptr 2 0 0), (5, .d (.int .i64 i))]) (fun _ => [(2, some (.box [.d (.str nm), .d (.pl (l.map cI))]))]) (fun i => l.length - i) 0 ⟨by simp, allTo_zero⟩ (by simp) (by simp) ?_
  intro i hs t m hi hh
  by_cases hlt : i < l.length
  · have hwi := wr1 (i := i) (by omega)
    by_cases he : l[i] = v
    · have hx : v ∈ l := he ▸ List.getElem_mem hlt
      simp [hlt, he, hx, ]
    · simp [hlt, he, hwi, ]
      exact back (i + 1) ⟨by omega, allTo_step hi.2 hlt (by simp [he])⟩ (by omega) rfl (by simp <;> omega) (by simp) (by simp)
  · have hx := (idxL_no (allTo_done hi.2 (by omega))).1
    simp [hlt, hx]
theorem w_impl_ContainsVariable (a : PAtom) (v : Int) : VC Try.prog 98 [.agg ((eAtom a).map V.d), .d (.int .i64 v)] (fun _ r => r = .d (.bool (a.vars.contains v))) := by
  refine VC.ofL EP s98 (by kernel_rfl) Try.func98 (by rfl) (by kernel_rfl) (by simp [Try.f98]) (by simp [Try.f98]) s98_ok fun B hl => ?_
  simp [Try.f98, eAtom]
  refine call_f (w_impl_hasInt a.vars v) (by simp) rfl fun hs1 hh1 => ?_
  simp
theorem w_impl_isLetters (s : List UInt8) : VC Try.prog 102 [.d (.str s), .d (.int .i64 4)] (fun _ r => r = .d (.bool (nameOk s))) := by
  refine VC.ofL EP s102 (by kernel_rfl) Try.func102 (by rfl) (by kernel_rfl) (by simp [Try.f102]) (by simp [Try.f102]) s102_ok fun B hl => ?_
  by_cases h1 : (s.length : Int) < 1
  · have : s = [] := List.length_eq_zero_iff.1 (by omega)
    subst this
    simp [Try.f102, nameOk_len]
  by_cases h4 : (4 : Int) < s.length
  · have : nameOk s = false := nameOk_len (by omega)
    simp [Try.f102, h1, h4, this]
  have hlen : 1 ≤ s.length ∧ s.length ≤ 4 := by omega
  simp [Try.f102, h1, h4]
  refine loop_rule (X := Nat) (fun i => i ≤ s.length ∧ AllTo lowB s i) (fun i => [(0, .d (.str s)), (5, .d (.int .i64 i))]) (fun _ => []) (fun i => s.length - i) 0 ⟨by simp, allTo_zero⟩ (by simp) (by simp) ?_
  intro i hs t m hi hh
  by_cases hlt : i < s.length
  · have hwi := wr1 (i := i) (by omega)
    by_cases ha : ((s[i]).toNat : Int) < 97
    · have hbad := nameOk_bad (all_bad (p := lowB) hlt (lowB_lo ha))
      simp [hlt, ha, hbad, ]
    · by_cases hz : (122 : Int) < ((s[i]).toNat : Int)
      · have hbad := nameOk_bad (all_bad (p := lowB) hlt (lowB_hi hz))
        simp [hlt, ha, hz, hbad, ]
      · simp [hlt, ha, hz, hwi, ]
        exact back (i + 1) ⟨by omega, allTo_step hi.2 hlt (lowB_ok ha hz)⟩ (by omega) rfl (by simp <;> omega) (by simp) (by simp)
  · have hd := allTo_done hi.2 (by omega)
    have hd2 : nameOk s = true := by rw [nameOk_ok hd, decide_eq_true hlen]
    simp [hlt, hd2]
theorem w_impl_IsValidName (s : List UInt8) : VC Try.prog 96 [.d (.str s)] (fun _ r => r = .d (.bool (nameOk s))) := by
  refine VC.ofL EP s96 (by kernel_rfl) Try.func96 (by rfl) (by kernel_rfl) (by simp [Try.f96]) (by simp [Try.f96]) s96_ok fun B hl => ?_
  simp [Try.f96, ]
  refine call_f (w_impl_isLetters s) (by simp) rfl fun hs1 hh1 => ?_
  simp
theorem w_spec_IsValidName (s : List UInt8) (hb : s.length ≤ maxLen) : VC Try.prog 81 [.d (.str s)] (fun _ r => r = .d (.bool (nameOk s))) := by
  refine VC.ofL EP s81 (by kernel_rfl) Try.func81 (by rfl) (by kernel_rfl) (by simp [Try.f81]) (by simp [Try.f81]) s81_ok fun B hl => ?_
  simp only [maxLen] at hb
  simp [Try.f81, ]
  refine loop_rule (X := Nat) (fun i => i ≤ s.length ∧ AllTo lowB s i) (fun i => [(0, .d (.str s)), (3, .d (.int .i64 i))]) (fun _ => []) (fun i => s.length - i) 0 ⟨by simp, allTo_zero⟩ (by simp) (by simp) ?_
  intro i hs t m hi hh
  by_cases hlt : i < s.length
  · have hwi := wr1 (i := i) (by omega)
    by_cases ha : ((s[i]).toNat : Int) < 97
    · have hbad := nameOk_bad (all_bad (p := lowB) hlt (lowB_lo ha))
      simp [hlt, ha, hbad, ]
    · by_cases hz : (122 : Int) < ((s[i]).toNat : Int)
      · have hbad := nameOk_bad (all_bad (p := lowB) hlt (lowB_hi hz))
        simp [hlt, ha, hz, hbad, ]
      · simp [hlt, ha, hz, hwi, ]
        exact back (i + 1) ⟨by omega, allTo_step hi.2 hlt (lowB_ok ha hz)⟩ (by omega) rfl (by simp <;> omega) (by simp) (by simp)
  · have hd := allTo_done hi.2 (by omega)
    simp [hlt, ]
    refine call_f (w_spec_l1In s.length 1 4) (by simp) rfl fun hs1 hh1 => ?_
    have e : inR (s.length : Int) 1 4 = decide (1 ≤ s.length ∧ s.length ≤ 4) := by
      simp only [inR, ← Bool.decide_and]; congr 1; apply propext; omega
    rw [e, nameOk_ok hd]
    simp
theorem w_impl_isSetOf (l : List Int) (n : Int) : VC Try.prog 95 [.d (pS cI l), .d (.int .i64 n)] (fun _ r => r = .d (.bool (setOf l n))) := by
  refine VC.ofL EP s95 (by kernel_rfl) Try.func95 (by rfl) (by kernel_rfl) (by simp [Try.f95]) (by simp [Try.f95]) s95_ok fun B hl => ?_
  simp [pS, maxLen] at hl
  simp [Try.f95, ]
  refine loop_rule (X := Nat) (SetTo l n) (fun i => [(0, .d (.pl (l.map cI))), (1, .d (.int .i64 n)), (7, .d (.pl (l.map cI))), (8, .d (.int .i64 l.length)), (9, .d (.int .i64 i))]) (fun _ => []) (fun i => l.length - i) 0 .zero (by simp) (by simp) ?_
  intro i hs t m hi hh
  have hil := hi.le
  by_cases hlt : i < l.length
  · have hwi := wr1 (i := i) (by omega)
    simp [hlt, ]
    refine call_f (w_impl_within l[i] 0 (IntKind.i64.wrap (n - 1))) (by simp) rfl fun hs1 hh1 => ?_
    simp at hh1
    cases h1 : inR l[i] 0 (IntKind.i64.wrap (n - 1))
    · simp [setOf_bad1 hlt h1]
    simp [hil, ← List.map_take, ]
    refine call_f (w_impl_hasInt (l.take i) l[i]) (by simp) rfl fun hs2 hh2 => ?_
    simp at hh2
    by_cases h2 : l[i] ∈ l.take i
    · simp [h2, setOf_bad2 hlt h2]
    simp [h2, hwi, ]
    exact back (i + 1) (hi.step hlt h1 h2) (by omega) rfl (by simp <;> omega) (by simp) (by simp)
  · have hd := hi.done (by omega)
    simp [hlt, hd]
end

end Go.Proofs.Ytohbmjknaeenjaa

namespace Go.Proofs.Ytohbmjknaeenjaa
open Go.Vs Go.Proofs Go
set_option maxRecDepth 100000
set_option maxHeartbeats 1000000

section
attribute [local simp] plI_id plStr_id map_plI map_plStr pS cP cI cStr cU8 cB eAtom
theorem w_spec_IsValidQuery (q : PQuery) (hst : ∀ a ∈ q.atoms, a.rel.length ≤ maxLen) : VC Try.prog 54 [.agg ((eQuery q).map V.d)] (fun _ r => r = .d (.bool (queryOk q))) := by
  refine VC.ofL EP s54 (by kernel_rfl) Try.func54 (by rfl) (by kernel_rfl) (by simp [Try.f54]) (by simp [Try.f54]) s54_ok fun B hl => ?_
  obtain ⟨n, ats, out⟩ := q
  simp only at hst
  simp [pS, maxLen, eQuery] at hl
  simp [Try.f54, s54_11, s54_26, s54_11, s54_26, eQuery]
  refine call_f (w_spec_l1In n 1 5) (by simp) rfl fun hs1 hh1 => ?_
  simp at hh1
  cases h1 : inR n 1 5
  · simp [queryOk_n (q := ⟨n, ats, out⟩) h1]
  have hn : 1 ≤ n ∧ n ≤ 5 := by simpa [inR] using h1
  simp [s54_11, s54_26, eQuery]
  refine call_f (w_spec_l1In ats.length 1 4) (by simp) rfl fun hs2 hh2 => ?_
  simp at hh2
  cases h2 : inR (ats.length : Int) 1 4
  · simp [queryOk_a (q := ⟨n, ats, out⟩) h2]
  have ha4 : ats.length ≤ 4 := by simp [inR] at h2; omega
  by_cases h3 : n < out.length
  · have hso : setOf out n = false := by
      cases hs : setOf out n
      · rfl
      · have := setOf_len hn hs; omega
    simp [h3, queryOk_o (q := ⟨n, ats, out⟩) hso]
  have hrw : ∀ i (h : i < ats.length), ats[i].rel.length ≤ maxLen := fun i h => hst _ (List.getElem_mem h)
  have hvl : ∀ i (h : i < ats.length), ats[i].vars.length ≤ 9223372036854775807 := fun i h => (hl.1.2 _ (List.getElem_mem h))
  simp [h3]
  refine loop_rule (X := Nat) (AtI n ats) (fun i => [(1, .ptr 1 0 0), (3, .d (.int .i64 i))]) (fun _ => [(1, some (.box [.d (.int .i64 n), .d (.pl (ats.map eAtom)), .d (.pl (out.map cI))]))]) (fun i => ats.length - i) 0 .zero (by simp) (by simp) ?_
  intro i hs t m hi hh
  have hil := hi.le
  by_cases hlt : i < ats.length
  · have hwi := wr1 (i := i) (by omega)
    have hbad : atomOk n ats[i] = false → queryOk ⟨n, ats, out⟩ = false := fun h => queryOk_at (q := ⟨n, ats, out⟩) hlt h
    simp [hlt, s54_11, s54_26, ]
    refine call_f (w_spec_IsValidName ats[i].rel (hrw i hlt)) (by simp) rfl fun hs3 hh3 => ?_
    simp at hh3
    cases h4 : nameOk ats[i].rel
    · simp [hbad (by simp only [atomOk, h4, Bool.false_and])]
    simp [hlt, s54_11, s54_26, ]
    refine call_f (w_spec_l1In ats[i].vars.length 1 5) (by simp) rfl fun hs4 hh4 => ?_
    simp at hh4
    cases h5 : inR (ats[i].vars.length : Int) 1 5
    · simp [hbad (by simp only [atomOk, h5, Bool.false_and, Bool.and_false])]
    simp [s54_11, s54_26, ]
    refine loop_rule (X := Nat) (AtK n ats[i].vars) (fun k => [(1, .ptr 1 0 0), (3, .d (.int .i64 i)), (4, .d (.int .i64 k))]) (fun _ => [(1, some (.box [.d (.int .i64 n), .d (.pl (ats.map eAtom)), .d (.pl (out.map cI))]))]) (fun k => ats[i].vars.length - k) 0 .zero (by simp) (by simp) ?_
    intro k hs t m hk hh
    have hkl := hk.le
    have hvi := hvl i hlt
    by_cases hkt : k < ats[i].vars.length
    · have hwk := wr1 (i := k) (by omega)
      cases h6 : inR ats[i].vars[k] 0 (IntKind.i64.wrap (n - 1))
      · have hq := hbad (atomOk_bad hkt h6)
        simp [hlt, hkt, s54_11, s54_26, ]
        refine call_f (VC.to (w_spec_l1In ats[i].vars[k] 0 (IntKind.i64.wrap (n - 1))) (show _ = V.d (.bool false) by rw [h6])) (by simp) rfl fun hs5 hh5 => ?_
        simp [hq]
      · refine anyQ fun Q => ?_
        simp [hlt, hkt, s54_11, s54_26, ]
        refine call_f (VC.to (w_spec_l1In ats[i].vars[k] 0 (IntKind.i64.wrap (n - 1))) (show _ = V.d (.bool true) by rw [h6])) (by simp) rfl fun hs5 hh5 => ?_
        simp at hh5
        simp [hwk, s54_11, s54_26, ]
        exact back (k + 1) (hk.step hkt h6) (by omega) rfl (by simp <;> omega) (by simp) (by simp)
    · have hao := atomOk_done hk (by omega) h4 h5
      simp [hlt, hkt, hwi, s54_11, s54_26, ]
      exact back (i + 1) (hi.step hlt hao) (by omega) rfl (by simp <;> omega) (by simp) (by simp)
  have hall := allTo_done hi.ok (by omega)
  simp [hlt, s54_11, s54_26, ]
  refine loop_rule (X := Nat) (UsTo n ats) (fun v => [(1, .ptr 1 0 0), (5, .d (.int .i64 v))]) (fun _ => [(1, some (.box [.d (.int .i64 n), .d (.pl (ats.map eAtom)), .d (.pl (out.map cI))]))]) (fun v => n.toNat - v) 0 .zero (by simp) (by simp) ?_
  intro v hs t m hv hh
  have hvn := hv.le
  by_cases hvt : v < n.toNat
  · have hwv := wr1 (i := v) (by omega)
    have hvt' : (v : Int) < n := by omega
    simp [hvt', s54_11, s54_26, ]
    refine loop_rule (X := Nat) (fun i => i ≤ ats.length) (fun i => [(1, .ptr 1 0 0), (5, .d (.int .i64 v)), (6, .d (.bool (hasTo ats v i))), (7, .d (.int .i64 i))]) (fun _ => [(1, some (.box [.d (.int .i64 n), .d (.pl (ats.map eAtom)), .d (.pl (out.map cI))]))]) (fun i => ats.length - i) 0 (by simp) (by simp [hasTo_zero]) (by simp) ?_
    intro i hs t m hi hh
    by_cases hlt : i < ats.length
    · have hwi := wr1 (i := i) (by omega)
      have hst := hasTo_step (v := (v : Int)) hlt
      refine anyQ fun Q => ?_
      cases h6 : hasTo ats v i
      · rw [h6, Bool.false_or] at hst
        simp [hlt, s54_11, s54_26, ]
        refine call_f (w_spec_ContainsVariable ats[i] v) (by simp) rfl fun hs5 hh5 => ?_
        simp at hh5
        simp only [List.contains_eq_mem] at hst
        simp [hwi, s54_11, s54_26, ]
        exact back (i + 1) (by omega) (by omega) rfl (by simp <;> omega) (by simp [hst]) (by simp)
      · rw [h6, Bool.true_or] at hst
        simp [hlt, hwi, s54_11, s54_26, ]
        exact back (i + 1) (by omega) (by omega) rfl (by simp <;> omega) (by simp [hst]) (by simp)
    · have hha := hasTo_all (l := ats) (v := (v : Int)) (i := i) (by omega)
      cases h7 : (varsIn ats).contains (v : Int)
      · rw [h7] at hha
        simp [hlt, hha, queryOk_u (q := ⟨n, ats, out⟩) (usesAll_bad hvt h7), s54_11, s54_26, ]
      · rw [h7] at hha
        simp [hlt, hha, hwv, s54_11, s54_26, ]
        exact back (v + 1) (hv.step hvt h7) (by omega) rfl (by simp <;> omega) (by simp) (by simp)
  have hus := hv.done (by omega)
  have hvt' : ¬ (v : Int) < n := by omega
  simp [hvt', s54_11, s54_26, ]
  refine loop_rule (X := Nat) (SetTo out n) (fun i => [(1, .ptr 1 0 0), (8, .d (.int .i64 i))]) (fun _ => [(1, some (.box [.d (.int .i64 n), .d (.pl (ats.map eAtom)), .d (.pl (out.map cI))]))]) (fun i => out.length - i) 0 .zero (by simp) (by simp) ?_
  intro i hs t m hi hh
  have hil := hi.le
  by_cases hlt : i < out.length
  · have hwi := wr1 (i := i) (by omega)
    simp [hlt, s54_11, s54_26, ]
    refine call_f (w_spec_l1In out[i] 0 (IntKind.i64.wrap (n - 1))) (by simp) rfl fun hs5 hh5 => ?_
    simp at hh5
    cases h6 : inR out[i] 0 (IntKind.i64.wrap (n - 1))
    · simp [queryOk_o (q := ⟨n, ats, out⟩) (setOf_bad1 hlt h6)]
    simp [hil, hlt, ← List.map_take, s54_11, s54_26, ]
    refine call_f (w_spec_l7Find (out.take i) out[i]) (by simp) rfl fun hs6 hh6 => ?_
    simp at hh6
    have hge := idxL_ge (out.take i) out[i]
    by_cases h7 : out[i] ∈ out.take i
    · have h8 : 0 ≤ idxL (out.take i) out[i] := by simpa [h7] using hge
      simp [h8, queryOk_o (q := ⟨n, ats, out⟩) (setOf_bad2 hlt h7)]
    · have h8 : ¬ 0 ≤ idxL (out.take i) out[i] := by simpa [h7] using hge
      simp [h8, hwi, s54_11, s54_26, ]
      exact back (i + 1) (hi.step hlt h6 h7) (by omega) rfl (by simp <;> omega) (by simp) (by simp)
  · have hd := hi.done (by omega)
    simp [hlt, queryOk_all (q := ⟨n, ats, out⟩) h1 h2 hd hall hus]
end

end Go.Proofs.Ytohbmjknaeenjaa

namespace Go.Proofs.Ytohbmjknaeenjaa
open Go.Vs Go.Proofs Go
set_option maxRecDepth 100000
set_option maxHeartbeats 1000000

section
attribute [local simp] plI_id plStr_id map_plI map_plStr pS cP cI cStr cU8 cB eAtom
theorem w_impl_IsValidQuery (q : PQuery) : VC Try.prog 85 [.agg ((eQuery q).map V.d)] (fun _ r => r = .d (.bool (queryOk q))) := by
  refine VC.ofL EP s85 (by kernel_rfl) Try.func85 (by rfl) (by kernel_rfl) (by simp [Try.f85]) (by simp [Try.f85]) s85_ok fun B hl => ?_
  obtain ⟨n, ats, out⟩ := q
  simp [pS, maxLen, eQuery] at hl
  simp [Try.f85, eQuery]
  refine call_f (w_impl_within n 1 5) (by simp) rfl fun hs1 hh1 => ?_
  simp at hh1
  cases h1 : inR n 1 5
  · simp [queryOk_n (q := ⟨n, ats, out⟩) h1]
  have hn : 1 ≤ n ∧ n ≤ 5 := by simpa [inR] using h1
  obtain ⟨N, rfl⟩ : ∃ N : Nat, n = (N : Int) := ⟨n.toNat, by omega⟩
  simp [eQuery]
  refine call_f (w_impl_within ats.length 1 4) (by simp) rfl fun hs2 hh2 => ?_
  simp at hh2
  cases h2 : inR (ats.length : Int) 1 4
  · simp [queryOk_a (q := ⟨N, ats, out⟩) h2]
  have ha4 : ats.length ≤ 4 := by simp [inR] at h2; omega
  simp [eQuery]
  refine call_f (w_impl_isSetOf out N) (by simp) rfl fun hs3 hh3 => ?_
  simp at hh3
  cases h3 : setOf out N
  · simp [queryOk_o (q := ⟨N, ats, out⟩) h3]
  have hvl : ∀ i (h : i < ats.length), ats[i].vars.length ≤ 9223372036854775807 := fun i h => (hl.1.2 _ (List.getElem_mem h))
  have hL : LenOk 1 N := ⟨by omega, by simp only [maxLen]; omega⟩
  have hwN : IntKind.i64.wrap ((N : Int) - 1) = N - 1 := wrap64_of (by omega) (by omega)
  simp [hL, ]
  refine loop_rule (X := Nat) (AtI N ats) (fun i => [(3, .d (.int .i64 N)), (4, .own 31 0 N), (33, .d (.pl (ats.map eAtom))), (34, .d (.int .i64 ats.length)), (35, .d (.int .i64 i))])
    (fun i => [(31, some (.row 4 1 ((usedL N (varsIn (ats.take i))).map cB)))]) (fun i => ats.length - i) 0 .zero (by simp) (by simp [usedL_nil, varsIn]) ?_
  intro i hs t m hi hh
  have hil := hi.le
  by_cases hlt : i < ats.length
  · have hwi := wr1 (i := i) (by omega)
    have hbad : atomOk N ats[i] = false → queryOk ⟨N, ats, out⟩ = false := fun h => queryOk_at (q := ⟨N, ats, out⟩) hlt h
    have hvs : varsIn (ats.take (i + 1)) = varsIn (ats.take i) ++ ats[i].vars := by
      rw [varsIn, List.take_succ_eq_append_getElem hlt, List.flatMap_append]; simp only [varsIn, List.flatMap_cons, List.flatMap_nil, List.append_nil]
    simp [hlt, ]
    refine call_f (w_impl_IsValidName ats[i].rel) (by simp) rfl fun hs3 hh3 => ?_
    simp at hh3
    cases h4 : nameOk ats[i].rel
    · simp [hbad (by simp only [atomOk, h4, Bool.false_and])]
    simp []
    refine call_f (w_impl_within ats[i].vars.length 1 5) (by simp) rfl fun hs4 hh4 => ?_
    simp at hh4
    cases h5 : inR (ats[i].vars.length : Int) 1 5
    · simp [hbad (by simp only [atomOk, h5, Bool.false_and, Bool.and_false])]
    simp []
    obtain ⟨us, hus⟩ : ∃ us, us = varsIn (ats.take i) := ⟨_, rfl⟩
    rw [← hus] at hvs ⊢
    obtain ⟨vs, hvse⟩ : ∃ vs, vs = ats[i].vars := ⟨_, rfl⟩
    have hvi := hvl i hlt
    rw [← hvse] at hvs hvi h5
    refine loop_rule (X := Nat) (AtK N vs) (fun k => [(3, .d (.int .i64 N)), (4, .own 31 0 N), (33, .d (.pl (ats.map eAtom))), (34, .d (.int .i64 ats.length)), (35, .d (.int .i64 i)), (51, .d (.pl (vs.map cI))), (52, .d (.int .i64 vs.length)), (53, .d (.int .i64 k))])
      (fun k => [(31, some (.row 4 1 ((usedL N (us ++ vs.take k)).map cB)))]) (fun k => vs.length - k) 0 .zero (by simp [hvse]) (by simp [hus]) ?_
    intro k hs t m hk hh
    have hkl := hk.le
    by_cases hkt : k < vs.length
    · have hwk := wr1 (i := k) (by omega)
      simp [hkt, ]
      refine call_f (w_impl_within vs[k] 0 (IntKind.i64.wrap ((N : Int) - 1))) (by simp) rfl fun hs5 hh5 => ?_
      simp at hh5
      cases h6 : inR vs[k] 0 (IntKind.i64.wrap ((N : Int) - 1))
      · have hq := hbad (atomOk_bad (k := k) (by rw [← hvse]; exact hkt) (by simpa only [← hvse] using h6))
        simp [hq]
      · have hst := hk.step hkt h6
        rw [hwN] at h6
        simp only [inR, Bool.and_eq_true, decide_eq_true_eq] at h6
        obtain ⟨p, hp⟩ : ∃ p : Nat, vs[k] = (p : Int) := ⟨vs[k].toNat, by omega⟩
        have hpN : p < N := by omega
        have hset : usedL N (us ++ vs.take (k + 1)) = (usedL N (us ++ vs.take k)).set p true := by
          rw [usedL_snoc hpN, List.append_assoc, List.take_succ_eq_append_getElem hkt, hp]
        simp [hp, hpN, hwk, ]
        exact back (k + 1) hst (by omega) rfl (by simp <;> omega) (by simp) (by simp [hset])
    · have hao := atomOk_done (n := N) (a := ats[i]) (k := k) (by rw [← hvse]; exact hk) (by rw [← hvse]; omega) h4 (by rw [← hvse]; exact h5)
      have hd : vs.take k = vs := List.take_of_length_le (by omega)
      simp [hkt, hwi, hd, ]
      exact back (i + 1) (hi.step hlt hao) (by omega) rfl (by simp <;> omega) (by simp) (by simp [hvs])
  have hall := allTo_done hi.ok (by omega)
  have hd : ats.take i = ats := List.take_of_length_le (by omega)
  rw [hd]
  simp [hlt, ]
  have hu := usesAll_iff (n := (N : Int)) (l := ats)
  rw [Int.toNat_natCast] at hu
  refine loop_rule (X := Nat) (fun j => j ≤ N ∧ AllTo id (usedL N (varsIn ats)) j) (fun j => [(67, .own 31 0 N), (68, .d (.int .i64 N)), (69, .d (.int .i64 j))]) (fun _ => [(31, some (.row 4 1 ((usedL N (varsIn ats)).map cB)))]) (fun j => N - j) 0 ⟨by simp, allTo_zero⟩ (by simp) (by simp) ?_
  intro j hs t m hj hh
  by_cases hjt : j < N
  · have hwj := wr1 (i := j) (by omega)
    have hjl : j < (usedL N (varsIn ats)).length := by simpa using hjt
    cases h6 : (usedL N (varsIn ats))[j]
    · have hq : queryOk ⟨N, ats, out⟩ = false := queryOk_u (q := ⟨N, ats, out⟩) (by rw [hu]; exact all_bad (p := id) hjl h6)
      simp [hjt, h6, hq, ]
    · simp [hjt, h6, hwj, ]
      exact back (j + 1) ⟨by omega, allTo_step hj.2 hjl h6⟩ (by omega) rfl (by simp <;> omega) (by simp) (by simp)
  · have hus : usesAll N ats = true := by rw [hu]; exact allTo_done hj.2 (by simp; omega)
    simp [hjt, queryOk_all (q := ⟨N, ats, out⟩) h1 h2 h3 hall hus]
end

end Go.Proofs.Ytohbmjknaeenjaa

namespace Go.Proofs.Ytohbmjknaeenjaa
open Go.Vs Go.Proofs Go
set_option maxRecDepth 100000
set_option maxHeartbeats 1000000

section
attribute [local simp] plI_id plStr_id map_plI map_plStr pS cP cI cStr cU8 cB eTab eReln
theorem w_impl_IsValidDatabase (d : PDb) : VC Try.prog 86 [.agg ((eDb d).map V.d)] (fun _ r => r = .d (.bool (dbOk d))) := by
  refine VC.ofL EP s86 (by kernel_rfl) Try.func86 (by rfl) (by kernel_rfl) (by simp [Try.f86]) (by simp [Try.f86]) s86_ok fun B hl => ?_
  obtain ⟨l⟩ := d
  by_cases h6 : (6 : Int) < l.length
  · have : dbOk ⟨l⟩ = false := by
      have : ¬ l.length ≤ 6 := by omega
      simp only [dbOk, this, decide_false, Bool.false_and]
    simp [Try.f86, s86_6, s86_6, eDb, h6, this]
  simp [Try.f86, s86_6, s86_6, eDb, h6]
  refine loop_rule (X := Nat) (DbTo l) (fun i => [(1, .ptr 1 0 0), (10, .d (.pl (l.map eTab))), (11, .d (.int .i64 l.length)), (12, .d (.int .i64 i))]) (fun _ => [(1, some (.box [.d (.pl (l.map eTab))]))]) (fun i => l.length - i) 0 .zero (by simp) (by simp) ?_
  intro i hs t m hi hh
  have hil := hi.le
  by_cases hlt : i < l.length
  case neg =>
    have hd := hi.done (by omega)
    simp [hlt, hd]
    omega
  have hwi := wr1 (i := i) (by omega)
  have hat := dbAt_eq hlt
  have hbad : dbAt l i = false → dbOk ⟨l⟩ = false := dbOk_bad hlt
  obtain ⟨nm, ar, rows, hT⟩ : ∃ nm ar rows, l[i] = ⟨nm, ⟨ar, rows⟩⟩ := ⟨_, _, _, rfl⟩
  rw [hT] at hat
  simp only [tabOk] at hat
  simp [hlt, hT, s86_6, ]
  refine call_f (w_impl_IsValidName nm) (by simp) rfl fun hs1 hh1 => ?_
  simp at hh1
  cases h1 : nameOk nm
  · have hb := hbad (by rw [hat, h1]; simp)
    simp [hb, s86_6, ]
  by_cases h0 : i = 0
  · subst h0
    have hwi0 : IntKind.i64.wrap 1 = 1 := by simpa using hwi
    simp [hT, s86_6, ]
    refine call_f (w_impl_IsValidRelation ⟨ar, rows⟩) (by simp [eReln]) rfl fun hs2 hh2 => ?_
    simp at hh2
    cases h3 : rowsOk ar rows
    · have hb := hbad (by rw [hat, h3]; simp)
      simp [hb, s86_6, ]
    by_cases h4 : ar < 1
    · have hb := hbad (by rw [hat]; have : ¬ 1 ≤ ar := by omega
                          simp [this])
      simp [h4, hb, hT, s86_6, ]
    by_cases h5 : (16 : Int) < rows.length
    · have hb := hbad (by rw [hat]; have : ¬ rows.length ≤ 16 := by omega
                          simp [this])
      simp [h4, h5, hb, hT, s86_6, ]
    have hok : dbAt l 0 = true := by
      have a4 : 1 ≤ ar := by omega
      have a5 : rows.length ≤ 16 := by omega
      rw [hat, h1, h3]; simp [a4, a5]
    simp [h4, h5, hT, hwi0, s86_6, ]
    exact back 1 (hi.step hlt hok) (by omega) rfl (by simp <;> omega) (by simp) (by simp)
  · have h0' : 0 < i := by omega
    have hw : IntKind.i64.wrap ((i : Int) - 1) = ((i - 1 : Nat) : Int) := by rw [wrap64_of (by omega) (by omega)]; omega
    have hlt1 : i - 1 < l.length := by omega
    cases h2 : Op.bytesLess (l[i - 1]'(by omega)).name nm
    · have hb := hbad (by rw [hat, h2]; simp [h0])
      simp [h0, h0', hw, hlt1, hT, h2, hb, s86_6, ]
    simp [h0, h0', hw, hlt1, hT, h2, s86_6, ]
    refine call_f (w_impl_IsValidRelation ⟨ar, rows⟩) (by simp [eReln]) rfl fun hs2 hh2 => ?_
    simp at hh2
    cases h3 : rowsOk ar rows
    · have hb := hbad (by rw [hat, h3]; simp)
      simp [hb, s86_6, ]
    by_cases h4 : ar < 1
    · have hb := hbad (by rw [hat]; have : ¬ 1 ≤ ar := by omega
                          simp [this])
      simp [h4, hb, hT, s86_6, ]
    by_cases h5 : (16 : Int) < rows.length
    · have hb := hbad (by rw [hat]; have : ¬ rows.length ≤ 16 := by omega
                          simp [this])
      simp [h4, h5, hb, hT, s86_6, ]
    have hok : dbAt l i = true := by
      have a4 : 1 ≤ ar := by omega
      have a5 : rows.length ≤ 16 := by omega
      rw [hat, h1, h3]; simp [a4, a5, h2]
    simp [h4, h5, hT, hwi, s86_6, ]
    exact back (i + 1) (hi.step hlt hok) (by omega) rfl (by simp <;> omega) (by simp) (by simp)
theorem w_spec_IsValidDatabase (d : PDb) (hst : ∀ t ∈ d.tabs, t.name.length ≤ maxLen) : VC Try.prog 55 [.agg ((eDb d).map V.d)] (fun _ r => r = .d (.bool (dbOk d))) := by
  refine VC.ofL EP s55 (by kernel_rfl) Try.func55 (by rfl) (by kernel_rfl) (by simp [Try.f55]) (by simp [Try.f55]) s55_ok fun B hl => ?_
  obtain ⟨l⟩ := d
  simp [pS, maxLen, eDb] at hl
  simp only at hst
  simp [Try.f55, s55_5, s55_5, eDb]
  refine loop_rule (X := Nat) (DbTo l) (fun i => [(1, .ptr 1 0 0), (3, .d (.int .i64 i))]) (fun _ => [(1, some (.box [.d (.pl (l.map eTab))]))]) (fun i => l.length - i) 0 .zero (by simp) (by simp) ?_
  intro i hs t m hi hh
  have hil := hi.le
  by_cases hlt : i < l.length
  case neg =>
    have hd := hi.done (by omega)
    simp [hlt, hd]
    omega
  have hwi := wr1 (i := i) (by omega)
  have hat := dbAt_eq hlt
  have hbad : dbAt l i = false → dbOk ⟨l⟩ = false := dbOk_bad hlt
  obtain ⟨nm, ar, rows, hT⟩ : ∃ nm ar rows, l[i] = ⟨nm, ⟨ar, rows⟩⟩ := ⟨_, _, _, rfl⟩
  rw [hT] at hat
  simp only [tabOk] at hat
  have hnl : nm.length ≤ maxLen := by have := hst l[i] (List.getElem_mem hlt); rwa [hT] at this
  simp [hlt, hT, s55_5, ]
  refine call_f (w_spec_IsValidName nm hnl) (by simp) rfl fun hs1 hh1 => ?_
  simp at hh1
  cases h1 : nameOk nm
  · have hb := hbad (by rw [hat, h1]; simp)
    simp [hb, s55_5, ]
  by_cases h0 : i = 0
  · subst h0
    have hwi0 : IntKind.i64.wrap 1 = 1 := by simpa using hwi
    simp [hT, s55_5, ]
    refine call_f (w_spec_IsValidRelation ⟨ar, rows⟩) (by simp [eReln]) rfl fun hs2 hh2 => ?_
    simp at hh2
    cases h3 : rowsOk ar rows
    · have hb := hbad (by rw [hat, h3]; simp)
      simp [hb, s55_5, ]
    by_cases h5 : (16 : Int) < rows.length
    · have hb := hbad (by rw [hat]; have : ¬ rows.length ≤ 16 := by omega
                          simp [this])
      simp [h5, hb, hT, s55_5, ]
    by_cases h4 : ar < 1
    · have hb := hbad (by rw [hat]; have : ¬ 1 ≤ ar := by omega
                          simp [this])
      simp [h4, h5, hb, hT, s55_5, ]
    have hok : dbAt l 0 = true := by
      have a4 : 1 ≤ ar := by omega
      have a5 : rows.length ≤ 16 := by omega
      rw [hat, h1, h3]; simp [a4, a5]
    simp [h4, h5, hT, hwi0, s55_5, ]
    exact back 1 (hi.step hlt hok) (by omega) rfl (by simp <;> omega) (by simp) (by simp)
  · have h0' : 0 < i := by omega
    have hw : IntKind.i64.wrap ((i : Int) - 1) = ((i - 1 : Nat) : Int) := by rw [wrap64_of (by omega) (by omega)]; omega
    have hlt1 : i - 1 < l.length := by omega
    cases h2 : Op.bytesLess (l[i - 1]'(by omega)).name nm
    · have hb := hbad (by rw [hat, h2]; simp [h0])
      simp [h0, h0', hw, hlt1, hT, h2, hb, s55_5, ]
    simp [h0, h0', hw, hlt1, hT, h2, s55_5, ]
    refine call_f (w_spec_IsValidRelation ⟨ar, rows⟩) (by simp [eReln]) rfl fun hs2 hh2 => ?_
    simp at hh2
    cases h3 : rowsOk ar rows
    · have hb := hbad (by rw [hat, h3]; simp)
      simp [hb, s55_5, ]
    by_cases h5 : (16 : Int) < rows.length
    · have hb := hbad (by rw [hat]; have : ¬ rows.length ≤ 16 := by omega
                          simp [this])
      simp [h5, hb, hT, s55_5, ]
    by_cases h4 : ar < 1
    · have hb := hbad (by rw [hat]; have : ¬ 1 ≤ ar := by omega
                          simp [this])
      simp [h4, h5, hb, hT, s55_5, ]
    have hok : dbAt l i = true := by
      have a4 : 1 ≤ ar := by omega
      have a5 : rows.length ≤ 16 := by omega
      rw [hat, h1, h3]; simp [a4, a5, h2]
    simp [h4, h5, hT, hwi, s55_5, ]
    exact back (i + 1) (hi.step hlt hok) (by omega) rfl (by simp <;> omega) (by simp) (by simp)
end

end Go.Proofs.Ytohbmjknaeenjaa

namespace Go.Proofs.Ytohbmjknaeenjaa
open Go.Vs Go.Proofs Go
set_option maxRecDepth 100000
set_option maxHeartbeats 1000000

theorem w_spec_l5Copy (r : PReln) (hb : r.rows.length ≤ 4294967296) (hb2 : ∀ x ∈ r.rows, x.length ≤ 4294967296) : VC Try.prog 57 [.agg ((eReln r).map .d)] (fun _ v => v = .agg ((eReln r).map .d)) := by
  obtain ⟨ar, l⟩ := r
  simp only at hb hb2
  refine VC.ofL EP s57 (by kernel_rfl) Try.func57 (by rfl) (by kernel_rfl) (by simp [Try.f57]) (by simp [Try.f57]) s57_ok fun B hl => ?_
  simp [Try.f57, s57_5, eReln]
  refine loop_ruleL (X := Nat) (fun i _ => i ≤ l.length) (fun i => [(1, .ptr 1 0 0), (2, .ptr 2 0 0), (3, .ptr 3 0 0), (4, .d (.int .i64 i))])
    (fun i => [(1, some (.box [.d (.int .i64 ar), .d (.pl (l.map (cP cI)))])), (2, some (.box [.d (.int .i64 0), .d (.sl none none [])])), (3, some (.box [.d (.int .i64 ar), .own 25 0 i])), (25, some (.row 26 1 ((l.take i).map (cP cI))))]) (fun i => l.length - i) ?_ ?_
  · refine (lead_box 3 1 25 26 1 [.d (.int .i64 ar), .d (.sl none none [])] (by omega) (by omega) (by omega) (by simp) rfl).bind ?_
    rintro _ rfl
    exact Lead.of ⟨0, by simp, rfl, rfl, Nat.le_refl _, by simp, by simp⟩
  · intro i hs t m hi hh
    by_cases hlt : i < l.length
    · have hwi := wr1 (i := i) (by omega)
      have hL : LenOk 24 (i + 1) := ⟨by omega, by simp only [maxLen]; omega⟩
      have hx := hb2 _ (List.getElem_mem hlt)
      have hL2 : LenOk 8 l[i].length := ⟨by omega, by simp only [maxLen]; omega⟩
      simp [hlt, hL, hL2, hwi, List.take_of_length_le, show min i l.length = i by omega, s57_5, ]
      refine back2 (i + 1) (by omega) (by omega) rfl (by simp <;> omega) (by simp) ?_
      simp
      rw [List.take_succ_eq_append_getElem (by simpa using hlt)]; simp
    · have hn : i = l.length := by omega
      subst hn
      simp [List.take_of_length_le]
theorem w_spec_CountedFromRelation (r : PReln) : VC Try.prog 31 [.agg ((eReln r).map .d)] (fun _ v => v = .tup [.agg ((eCnt (cntOf r)).map .d), .d (.bool (rowsOk r.ar r.rows))]) := by
  refine VC.ofL EP s31 (by kernel_rfl) Try.func31 (by rfl) (by kernel_rfl) (by simp [Try.f31]) (by simp [Try.f31]) s31_ok fun B hl => ?_
  simp [eReln, maxLen] at hl
  simp [Try.f31, eReln]
  refine call_f (w_spec_IsValidRelation r) (by simp [eReln]) rfl fun hs0 hh0 => ?_
  simp at hh0
  cases h1 : rowsOk r.ar r.rows
  · simp [cntOf, h1, eCnt]
  have hlen := rowsOk_len h1
  have hrow := rowsOk_row h1
  simp
  refine call_p (w_spec_l5Copy r (by omega) (fun x hx => by have := hrow x hx; omega)) (by simp [eReln]) fun hs1 hh1 _ => ?_
  simp at hh1
  simp [eReln]
  refine loop_ruleL (X := Nat) (fun i _ => i ≤ r.rows.length) (fun i => [(1, .ptr 1 0 0), (2, .ptr 2 0 0), (5, .ptr 5 0 0), (6, .d (.int .i64 i))])
    (fun i => [(1, some (.box [.d (.int .i64 r.ar), .d (.pl (r.rows.map (cP cI)))])), (2, some (.box [.d (.int .i64 0), .d (.sl none none []), .d (.sl none none [])])), (5, some (.box [.d (.int .i64 r.ar), .d (.pl (r.rows.map (cP cI))), .own 28 0 i])), (28, some (.row 3 1 ((List.replicate i 1).map cI)))]) (fun i => r.rows.length - i) ?_ ?_
  · refine (lead_box 5 2 28 3 1 [.d (.int .i64 r.ar), .d (.pl (r.rows.map (cP cI))), .d (.sl none none [])] (by omega) (by omega) (by omega) (by simp) rfl).bind ?_
    rintro _ rfl
    exact Lead.of ⟨0, by simp, rfl, rfl, Nat.le_refl _, by simp, by simp⟩
  · intro i hs t m hi hh
    by_cases hlt : i < r.rows.length
    · have hwi := wr1 (i := i) (by omega)
      have hL : LenOk 8 (i + 1) := ⟨by omega, by simp only [maxLen]; omega⟩
      simp [hlt, hL, hwi, ]
      refine back2 (i + 1) (by omega) (by omega) rfl (by simp <;> omega) (by simp) ?_
      simp [List.replicate_succ']
    · have hn : i = r.rows.length := by omega
      subst hn
      simp [cntOf, h1, eCnt, List.take_of_length_le]

end Go.Proofs.Ytohbmjknaeenjaa

namespace Go.Proofs.Ytohbmjknaeenjaa
open Go.Vs Go.Proofs Go
set_option maxRecDepth 100000
set_option maxHeartbeats 1000000

section
attribute [local simp] plI_id plStr_id map_plI map_plStr pS cP cI cStr cU8 cB
theorem q_impl_copyInts (l : List Int) (hb : l.length ≤ 4294967296) : VC Try.prog 76 [.d (pS cI l)] (fun _ r => r = .d (pS cI l)) := by
  refine VC.ofL EP s76 (by kernel_rfl) Try.func76 (by rfl) (by kernel_rfl) (by simp [Try.f76]) (by simp [Try.f76]) s76_ok fun B hl => ?_
  have hL : LenOk 8 l.length := ⟨by omega, by simp only [maxLen]; omega⟩
  simp [Try.f76, hL, List.take_of_length_le]
theorem q_impl_copyRows (l : List (List Int)) (hb : l.length ≤ 4294967296) (hb2 : ∀ r ∈ l, r.length ≤ 4294967296) : VC Try.prog 70 [.d (pS (cP cI) l)] (fun _ r => r = .d (pS (cP cI) l)) := by
  refine VC.ofL EP s70 (by kernel_rfl) Try.func70 (by rfl) (by kernel_rfl) (by simp [Try.f70]) (by simp [Try.f70]) s70_ok fun B hl => ?_
  simp [Try.f70, ]
  refine loop_ruleL (X := Nat) (fun i _ => i ≤ l.length) (fun i => [(3, .own 16 0 i), (6, .d (.pl (l.map (cP cI)))), (7, .d (.int .i64 l.length)), (8, .d (.int .i64 i))]) (fun i => [(16, some (.row 26 1 ((l.take i).map (cP cI))))]) (fun i => l.length - i) ?_ ?_
  · refine (lead_slot 3 16 26 1 (by omega) (by omega) (by simp)).bind ?_
    rintro _ rfl
    exact Lead.of ⟨0, by omega, rfl, rfl, Nat.le_refl _, by simp, by simp⟩
  intro i hs t m hi hh
  by_cases hlt : i < l.length
  · have hwi := wr1 (i := i) (by omega)
    have hL : LenOk 24 (i + 1) := ⟨by omega, by simp only [maxLen]; omega⟩
    have hmn : min i l.length = i := by omega
    have hst2 : List.take (i + 1) (List.map (cP cI) l) = List.take i (List.map (cP cI) l) ++ [cP cI l[i]] := by
      rw [List.take_succ_eq_append_getElem (by simpa using hlt)]; simp
    simp [hlt, ]
    refine call_p (q_impl_copyInts l[i] (hb2 _ (List.getElem_mem hlt))) (by simp) fun hs1 hh1 hl1 => ?_
    simp at hh1
    simp [hwi, hL, hmn, ]
    exact back2 (i + 1) (by omega) (by omega) rfl (by simp <;> omega) (by simp) (by simp [hst2])
  · have hn : i = l.length := by omega
    subst hn
    simp [List.take_of_length_le]
theorem q_impl_copyRelation (r : PReln) (hb : r.rows.length ≤ 4294967296) (hb2 : ∀ x ∈ r.rows, x.length ≤ 4294967296) : VC Try.prog 97 [.agg ((eReln r).map V.d)] (fun _ v => v = .agg ((eReln r).map V.d)) := by
  refine VC.ofL EP s97 (by kernel_rfl) Try.func97 (by rfl) (by kernel_rfl) (by simp [Try.f97]) (by simp [Try.f97]) s97_ok fun B hl => ?_
  simp [Try.f97, s97_1, s97_1, eReln]
  refine call_p (q_impl_copyRows r.rows hb hb2) (by simp) fun hs1 hh1 hl1 => ?_
  simp at hh1
  simp [s97_1, ]
theorem w_impl_LookupRelation (d : PDb) (nm : List UInt8) : VC Try.prog 87 [.agg ((eDb d).map V.d), .d (.str nm)] (fun _ v => v = .tup [.agg ((eReln (lkR d nm)).map V.d), .d (.bool (lkB d nm))]) := by
  refine VC.ofL EP s87 (by kernel_rfl) Try.func87 (by rfl) (by kernel_rfl) (by simp [Try.f87]) (by simp [Try.f87]) s87_ok fun B hl => ?_
  obtain ⟨l⟩ := d
  simp [Try.f87, eDb]
  refine call_f (w_impl_IsValidDatabase ⟨l⟩) (by simp [eDb]) rfl fun hs1 hh1 => ?_
  simp at hh1
  cases h1 : dbOk ⟨l⟩
  · obtain ⟨e1, e2⟩ := lk_no (nm := nm) h1
    simp [e1, e2, eReln]
  have hl6 := dbOk_len h1
  simp only at hl6
  simp
  refine loop_rule (X := Nat) (LkTo l nm) (fun i => [(1, .d (.str nm)), (2, .ptr 2 0 0), (4, .ptr 4 0 0), (11, .d (.pl (l.map eTab))), (12, .d (.int .i64 l.length)), (13, .d (.int .i64 i))]) (fun _ => [(2, some (.box [.d (.pl (l.map eTab))])), (4, some (.box [.d (.int .i64 0), .d (.sl none none [])]))]) (fun i => l.length - i) 0 .zero (by simp) (by simp) ?_
  intro i hs t m hi hh
  by_cases hlt : i < l.length
  · have hwi := wr1 (i := i) (by omega)
    have hr := tabOk_rel (dbOk_tab h1 (List.getElem_mem hlt))
    by_cases he : l[i].name = nm
    · obtain ⟨e1, e2⟩ := hi.found h1 hlt he
      simp [hlt, he, eTab, eReln, ]
      refine call_p (q_impl_copyRelation l[i].rel hr.1 hr.2) (by simp [eReln]) fun hs2 hh2 hl2 => ?_
      simp [e1, e2, eReln]
    · simp [hlt, he, hwi, eTab, eReln, ]
      exact back (i + 1) (hi.step hlt he) (by omega) rfl (by simp <;> omega) (by simp [eTab, eReln]) (by simp [eTab, eReln])
  · obtain ⟨e1, e2⟩ := hi.done (by omega)
    simp [hlt, e1, e2, eReln]
theorem w_spec_LookupRelation (d : PDb) (nm : List UInt8) (hst : ∀ t ∈ d.tabs, t.name.length ≤ maxLen) : VC Try.prog 53 [.agg ((eDb d).map V.d), .d (.str nm)] (fun _ v => v = .tup [.agg ((eReln (lkR d nm)).map V.d), .d (.bool (lkB d nm))]) := by
  refine VC.ofL EP s53 (by kernel_rfl) Try.func53 (by rfl) (by kernel_rfl) (by simp [Try.f53]) (by simp [Try.f53]) s53_ok fun B hl => ?_
  obtain ⟨l⟩ := d
  simp [pS, maxLen, eDb] at hl
  simp [Try.f53, eDb]
  refine loop_rule (X := Nat) (LkTo l nm) (fun i => [(1, .d (.str nm)), (2, .ptr 2 0 0), (4, .ptr 4 0 0), (6, .d (.int .i64 i))]) (fun _ => [(2, some (.box [.d (.pl (l.map eTab))])), (4, some (.box [.d (.int .i64 0), .d (.sl none none [])]))]) (fun i => l.length - i) 0 .zero (by simp) (by simp) ?_
  intro i hs t m hi hh
  by_cases hlt : i < l.length
  · have hwi := wr1 (i := i) (by omega)
    simp [hlt, ]
    refine call_f (w_spec_IsValidDatabase ⟨l⟩ hst) (by simp [eDb]) rfl fun hs1 hh1 => ?_
    simp at hh1
    cases h1 : dbOk ⟨l⟩
    · obtain ⟨e1, e2⟩ := lk_no (nm := nm) h1
      simp [e1, e2, eReln, ]
    have hr := tabOk_rel (dbOk_tab h1 (List.getElem_mem hlt))
    by_cases he : l[i].name = nm
    · obtain ⟨e1, e2⟩ := hi.found h1 hlt he
      simp [hlt, he, eTab, eReln, ]
      refine call_p (w_spec_l5Copy l[i].rel hr.1 hr.2) (by simp [eReln]) fun hs2 hh2 hl2 => ?_
      simp [e1, e2, eReln]
    · simp [hlt, he, hwi, eTab, eReln, ]
      exact back (i + 1) (hi.step hlt he) (by omega) rfl (by simp <;> omega) (by simp [eTab, eReln]) (by simp [eTab, eReln])
  · obtain ⟨e1, e2⟩ := hi.done (by omega)
    simp [hlt, e1, e2, eReln, ]
end

end Go.Proofs.Ytohbmjknaeenjaa

namespace Go.Proofs.Ytohbmjknaeenjaa
open Go.Vs Go.Proofs Go
set_option maxRecDepth 100000
set_option maxHeartbeats 1000000

theorem w_impl_copyInts (a : Ints) (ha : okS okI a) (hb : a.xs.length ≤ 4294967296) :
   VC Try.prog 76 [.d (dSl cI a)] (fun n r => ∃ y : Sl Int, r = .d (dSl cI y) ∧ plS plI y = plS plI a ∧ okS okI y ∧ Good (cS cI y) (whS whI y) n) := by
  refine VC.of E s76 (by kernel_rfl) Try.func76 (by rfl) (by kernel_rfl) (by simp [Try.f76]) (by simp [Try.f76]) s76_ok fun B => ?_
  have hL : LenOk 8 a.xs.length := ⟨by omega, by simp only [maxLen]; omega⟩
  simp [Try.f76, dSl, hL, cI]
  intro γ hs' h1 hg
  obtain ⟨q1, q2⟩ := gam_at hg (k := 3) (T := 3) (sz := 1) (es := a.xs.map cI) (by simp [cI])
  have q3 := gam_row hg (k := 3) (T := 3) (sz := 1) (es := a.xs.map cI) (by simp [cI])
  clear hg
  refine ⟨⟨γ 3, some (3, 1), a.xs⟩, ⟨⟨rfl, rfl, by simp [List.take_of_length_le]⟩, rfl, ha, good_row (fun g hg => (q1 g hg).1) (by simpa using q2) q3 ⟨by simp, by simp⟩ (by simp [whI])⟩⟩
theorem w_impl_copyRows (a : Sl Ints) (ha : okS (okS okI) a) (hb : a.xs.length ≤ 4294967296) (hb2 : ∀ r ∈ a.xs, r.xs.length ≤ 4294967296) :
   VC Try.prog 70 [.d (dSl (cS cI) a)] (fun n r => ∃ y : Sl Ints, r = .d (dSl (cS cI) y) ∧ plS (plS plI) y = plS (plS plI) a ∧ okS (okS okI) y ∧ Good (cS (cS cI) y) (whS (whS whI) y) n) := by
  refine VC.of E s70 (by kernel_rfl) Try.func70 (by rfl) (by kernel_rfl) (by simp [Try.f70]) (by simp [Try.f70]) s70_ok fun B => ?_
  simp [Try.f70, dSl]
  refine loop_ruleL (X := Nat × List (Sl Int)) (fun p h => p.1 ≤ a.xs.length ∧ p.2.length = p.1 ∧ p.2.map (plS plI) = (a.xs.map (plS plI)).take p.1 ∧ (∀ y ∈ p.2, okS okI y) ∧ GoodL (cS cI) (whS whI) B h p.2)
    (fun p => [(3, .own 16 0 p.1), (6, .d (.sl a.id a.T (a.xs.map (cS cI)))), (7, .d (.int .i64 a.xs.length)), (8, .d (.int .i64 p.1))]) (fun p => [(16, some (.row 26 1 (p.2.map (cS cI))))]) (fun p => a.xs.length - p.1) ?_ ?_
  · refine (lead_slot 3 16 26 1 (by omega) (by omega) (by simp)).bind ?_
    rintro _ rfl
    exact Lead.of ⟨(0, []), ⟨by simp, rfl, by simp, by simp, GoodL.nil⟩, rfl, rfl, Nat.le_refl _, by simp, by simp⟩
  · rintro ⟨i, ys⟩ hs t m ⟨hi, hyl, hpl, hok, hgd⟩ hh
    simp only at hi hyl hpl hok hgd
    by_cases hlt : i < a.xs.length
    · have hwi := wr1 (i := i) (by omega)
      have hmem : a.xs[i] ∈ a.xs := List.getElem_mem _
      have hL : LenOk 24 (i + 1) := ⟨by omega, by simp only [maxLen]; omega⟩
      simp [cS, hlt]
      refine call_some (w_impl_copyInts a.xs[i] (ha.2 _ hmem) (hb2 _ hmem)) rfl (by simp) fun n hs' r hn hn' hp hr => ?_
      obtain ⟨y, rfl, hy1, hy2, hy3⟩ := hp
      simp at hn
      have hr' : ∀ g ∈ idsL (cS cI y), g < hs' := fun g hg => hr g (by rw [idsL_cS] at hg; exact hg)
      simp [cS, dSl, hyl, hL, hwi]
      refine back2 (i + 1, ys ++ [y]) ⟨by omega, by simp [hyl], ?_, ?_, GoodL.snoc hgd (by omega) hn' hy3 hr'⟩ (by simp; omega) rfl (by simp <;> omega) (by simp) (by simp [cS, dSl])
      · simp only [List.map_append, hpl, List.map_cons, List.map_nil, hy1]
        rw [List.take_succ_eq_append_getElem (by simpa using hlt)]; simp
      · intro y' hy'
        rcases List.mem_append.1 hy' with h | h
        · exact hok y' h
        · rw [List.mem_singleton.1 h]; exact hy2
    · have hn : i = a.xs.length := by omega
      subst hn
      simp [hyl]
      intro γ hs' h1 hg
      obtain ⟨q1, q2⟩ := gam_at hg (k := 16) (T := 26) (sz := 1) (es := ys.map (cS cI)) (by simp)
      have q3 := gam_row hg (k := 16) (T := 26) (sz := 1) (es := ys.map (cS cI)) (by simp)
      clear hg
      refine ⟨⟨γ 16, some (26, 1), ys⟩, ⟨rfl, rfl, by simp [List.take_of_length_le, hyl]⟩, by rw [List.take_of_length_le (by simp)] at hpl; exact hpl, ⟨by simp only [maxLen]; show ys.length ≤ _; omega, hok⟩, good_row (fun g hg => (q1 g hg).1) (by simpa using q2) q3 ⟨hgd.nd, hgd.lo⟩ hgd.wh⟩

end Go.Proofs.Ytohbmjknaeenjaa

namespace Go.Proofs.Ytohbmjknaeenjaa
open Go.Vs Go.Proofs Go
set_option maxRecDepth 100000
set_option maxHeartbeats 1000000

section
attribute [local simp] plI_id plStr_id map_plI map_plStr
theorem e_impl_copyInts (l : List Int) (hb : l.length ≤ 4294967296) :
   VC Try.prog 76 [.d (pS cI l)] (fun n r => ∃ y : Ints, r = .d (dSl cI y) ∧ plS plI y = l ∧ okS okI y ∧ Good (cS cI y) (whS whI y) n) := by
  refine VC.of E s76 (by kernel_rfl) Try.func76 (by rfl) (by kernel_rfl) (by simp [Try.f76]) (by simp [Try.f76]) s76_ok fun B => ?_
  have hL : LenOk 8 l.length := ⟨by omega, by simp only [maxLen]; omega⟩
  simp [Try.f76, pS, hL, cI]
  intro γ hs' h1 hg
  obtain ⟨q1, q2⟩ := gam_at hg (k := 3) (T := 3) (sz := 1) (es := l.map cI) (by simp [cI])
  have q3 := gam_row hg (k := 3) (T := 3) (sz := 1) (es := l.map cI) (by simp [cI])
  clear hg
  have hp : hpLL (l.map cI) = false := hpLL_mapI l
  refine ⟨⟨γ 3, some (3, 1), l⟩, by simp [dSl, List.take_of_length_le, cI], by simp [plS], ⟨by simp only [maxLen]; omega, fun _ _ => trivial⟩, good_row (fun g hg => (q1 g hg).1) (by simpa using q2) q3 ⟨by simp, by simp⟩ (by simp [whI])⟩
theorem e_impl_copyRowsT (l : List (List Int)) (hb : l.length ≤ 4294967296) (hb2 : ∀ r ∈ l, r.length ≤ 4294967296) :
   VC Try.prog 70 [.d (pS (cP cI) l)] (fun n r => ∃ y : Sl Ints, r = .d (dSl (cS cI) y) ∧ plS (plS plI) y = l ∧ okS (okS okI) y ∧ Good (cS (cS cI) y) (whS (whS whI) y) n ∧ y.T = some (26, 1)) := by
  refine VC.of E s70 (by kernel_rfl) Try.func70 (by rfl) (by kernel_rfl) (by simp [Try.f70]) (by simp [Try.f70]) s70_ok fun B => ?_
  simp [Try.f70, pS]
  refine loop_ruleL (X := Nat × List Ints) (CopI (cS cI) (whS whI) (okS okI) (plS plI) l B) (fun p => [(3, .own 16 0 p.2.length), (6, .d (.pl (l.map (cP cI)))), (7, .d (.int .i64 l.length)), (8, .d (.int .i64 p.1))]) (fun p => [(16, some (.row 26 1 (p.2.map (cS cI))))]) (fun p => l.length - p.1) ?_ ?_
  · refine (lead_slot 3 16 26 1 (by omega) (by omega) (by simp)).bind ?_
    rintro _ rfl
    exact Lead.of ⟨(0, []), .zero, rfl, rfl, Nat.le_refl _, by simp, by simp⟩
  rintro ⟨i, ys⟩ hs t m hI hh
  have hle := hI.le
  have hyl := hI.len
  simp only at hle
  by_cases hlt : i < l.length
  · have hwi := wr1 (i := i) (by omega)
    have hL : LenOk 24 (ys.length + 1) := ⟨by omega, by simp only [maxLen]; omega⟩
    simp [hlt, cP, pS, ]
    refine call_some (e_impl_copyInts l[i] (hb2 _ (List.getElem_mem hlt))) (by simp [pS]) (by simp) fun n hs' r hn hn' hp hr => ?_
    obtain ⟨y, rfl, hy1, hy2, hy3⟩ := hp
    simp at hn
    have hr' : ∀ g ∈ idsL (cS cI y), g < hs' := fun g hg => hr g (by rw [idsL_cS] at hg; exact hg)
    simp [cS, dSl, hL, hwi, ]
    exact back2 (i + 1, ys ++ [y]) (hI.snoc hlt hy1 hy2 (by omega) hn' hy3 hr') (by simp only; omega) rfl (by simp <;> omega) (by simp [cP, pS]) (by simp [cS, dSl])
  · have hall := hI.all (by omega)
    simp [hlt, ]
    intro γ hs' h1 hg
    obtain ⟨q1, q2⟩ := gam_at hg (k := 16) (T := 26) (sz := 1) (es := ys.map (cS cI)) (by simp)
    have q3 := gam_row hg (k := 16) (T := 26) (sz := 1) (es := ys.map (cS cI)) (by simp)
    clear hg
    have hp : hpLL (ys.map (cS cI)) = false := hpLL_mapS ys
    refine ⟨⟨γ 16, some (26, 1), ys⟩, by simp [dSl, List.take_of_length_le], by simpa [plS] using hall, ⟨by simp only [maxLen]; show ys.length ≤ _; omega, hI.ok⟩, good_row (fun g hg => (q1 g hg).1) (by simpa using q2) q3 ⟨hI.good.nd, hI.good.lo⟩ hI.good.wh, rfl⟩
theorem e_impl_copyRows (l : List (List Int)) (hb : l.length ≤ 4294967296) (hb2 : ∀ r ∈ l, r.length ≤ 4294967296) :
   VC Try.prog 70 [.d (pS (cP cI) l)] (fun n r => ∃ y : Sl Ints, r = .d (dSl (cS cI) y) ∧ plS (plS plI) y = l ∧ okS (okS okI) y ∧ Good (cS (cS cI) y) (whS (whS whI) y) n) :=
  (e_impl_copyRowsT l hb hb2).weak fun _ _ ⟨y, h1, h2, h3, h4, _⟩ => ⟨y, h1, h2, h3, h4⟩
theorem e_impl_copyRows0 : VC Try.prog 70 [.d (pS (cP cI) [])] (fun _ r => r = .d (.sl none none [])) := by
  refine VC.of E s70 (by kernel_rfl) Try.func70 (by rfl) (by kernel_rfl) (by simp [Try.f70]) (by simp [Try.f70]) s70_ok fun B => ?_
  simp [Try.f70, pS]
  refine loop_rule (X := Unit) (fun _ => True) (fun _ => [(3, .d (.sl none none [])), (6, .d (.pl [])), (7, .d (.int .i64 0)), (8, .d (.int .i64 0))]) (fun _ => []) (fun _ => 0) () trivial (by simp) (by simp) ?_
  intro i hs t m hi hh
  simp []
theorem e_impl_copyRelation (r : PReln) (hb : r.rows.length ≤ 4294967296) (hb2 : ∀ x ∈ r.rows, x.length ≤ 4294967296) :
   VC Try.prog 97 [.agg ((eReln r).map V.d)] (fun n v => ∃ y : Reln, v = .agg ((cReln y).map V.d) ∧ plReln y = r ∧ okReln y ∧ Good (cReln y) (whReln y) n) := by
  refine VC.of E s97 (by kernel_rfl) Try.func97 (by rfl) (by kernel_rfl) (by simp [Try.f97]) (by simp [Try.f97]) s97_ok fun B => ?_
  simp [Try.f97, s97_1, s97_1, eReln, cI, cP]
  refine call_some (e_impl_copyRows r.rows hb hb2) (by simp [pS]) (by simp) fun n1 hs1 r1 hn1 hm1 hp1 hr1 => ?_
  obtain ⟨y, rfl, p1, k1, G1⟩ := hp1
  simp at hn1
  simp [s97_1, ]
  exact ⟨⟨r.ar, y⟩, by simp [cReln, cI, cS], by rw [plReln]; simp only; rw [p1]; rfl, ⟨trivial, k1⟩, good_Reln G1 (by omega)⟩
end

end Go.Proofs.Ytohbmjknaeenjaa

namespace Go.Proofs.Ytohbmjknaeenjaa
open Go.Vs Go.Proofs Go
set_option maxRecDepth 100000
set_option maxHeartbeats 1000000

theorem w_spec_l5Sort : ∀ (n : Nat) (l : List (List Int)), l.length ≤ n → l.length ≤ 4294967296 → VC Try.prog 80 [.d (pS (cP cI) l)] (fun _ r => r = .d (pS (cP cI) (srtU l))) := by
  intro n
  induction n with
  | zero =>
    intro l hn hb
    have : l = [] := List.length_eq_zero_iff.1 (by omega)
    subst this
    refine VC.ofL EP s80 (by kernel_rfl) Try.func80 (by rfl) (by kernel_rfl) (by simp [Try.f80]) (by simp [Try.f80]) s80_ok fun B hl => ?_
    simp [Try.f80, s80_13, srtU]
  | succ n ih =>
  intro l hn hb
  refine VC.ofL EP s80 (by kernel_rfl) Try.func80 (by rfl) (by kernel_rfl) (by simp [Try.f80]) (by simp [Try.f80]) s80_ok fun B hl => ?_
  by_cases h2 : l.length < 2
  · have e : srtU l = l := srtU_id (by
      match l, h2 with
      | [], _ => exact .nil
      | [_], _ => simp
      | _ :: _ :: _, h => simp only [List.length_cons] at h; omega)
    simp [Try.f80, s80_13, show ((l.length : Int) < 2) by omega, e]
  obtain ⟨k, hk⟩ : ∃ k, k = l.length / 2 := ⟨_, rfl⟩
  have hm : IntKind.i64.wrap ((l.length : Int) / 2) = (k : Int) := by rw [wrap64_of (by omega) (by omega)]; omega
  simp [Try.f80, s80_13, show ¬ ((l.length : Int) < 2) by omega, hm, show k ≤ l.length by omega]
  refine call_p (ih (l.take k) (by simp; omega) (by simp; omega)) (by simp [List.map_take]) fun hs1 hh1 _ => ?_
  simp at hh1
  simp [hm, show k ≤ l.length by omega, List.take_of_length_le]
  refine call_p (ih (l.drop k) (by simp; omega) (by simp; omega)) (by simp [List.map_drop]) fun hs2 hh2 _ => ?_
  simp at hh2
  simp
  have hst := MI.start l k
  generalize srtU (l.take k) = a0 at hst
  generalize srtU (l.drop k) = b0 at hst
  refine loop_rule (X := List (List Int) × List (List Int) × List (List Int)) (fun p => MI l p.1 p.2.1 p.2.2)
    (fun p => [(4, .d (.pl (p.1.map (cP cI)))), (5, .d (.pl (p.2.1.map (cP cI)))), (6, .own 24 0 p.2.2.length)]) (fun p => [(24, some (.row 26 1 (p.2.2.map (cP cI))))]) (fun p => p.1.length + p.2.1.length) (a0, b0, []) hst (by simp) (by simp) ?_
  rintro ⟨a, b, out⟩ hs t m hI hh
  simp only at hI
  have hlen := hI.len
  have hL24 : LenOk 24 1 := ⟨by omega, by simp only [maxLen]; omega⟩
  have hpa : ∀ a : List (List Int), (0 : Int) < (a.length : Int) + 1 := fun a => by omega
  have hpb : ∀ a : List (List Int), ¬ (a.length : Int) + 1 = 0 := fun a => by omega
  have hqa : (0 : Int) < 1 := by omega
  have hqb : ¬ (0 : Int) < -1 := by omega
  rcases a with _ | ⟨x, a⟩
  · rcases b with _ | ⟨y, b⟩
    · have hd := hI.done
      subst hd
      simp [List.take_of_length_le]
    · refine anyQ fun Q => ?_
      have hc0 : True := trivial
      have hI' := hI.swap
      have hL := hI'.left (by simp)
      rcases nil_or_snoc out with rfl | ⟨o, z, rfl⟩
      · simp [hc0, hpa, hpb, hqa, hqb, List.take_of_length_le, cP, hL24, s80_13, ]
        exact back ([], b, [y]) (MI.swap (hL.2 (by simp))) (by simp <;> omega) rfl (by simp <;> omega) (by simp) (by simp)
      · simp only [List.length_append, List.length_cons, List.length_nil] at hlen
        have hw : IntKind.i64.wrap (o.length : Int) = o.length := wrap64_of (by omega) (by omega)
        have hix : (o.map (cP cI) ++ [[D.pl (z.map cI)]])[o.length]? = some [D.pl (z.map cI)] := by rw [List.getElem?_append_right (by simp)]; simp
        simp [hc0, hpa, hpb, hqa, hqb, List.take_of_length_le, hw, hix, cP, s80_13, ]
        refine call_f (w_spec_CompareRows z y) (by simp) rfl fun hs3 hh3 => ?_
        simp at hh3
        by_cases e : z = y
        · subst e
          simp [cmpL_self]
          exact back ([], b, o ++ [z]) (MI.swap (hL.1 (hI'.last.2 rfl))) (by simp <;> omega) rfl (by simp <;> omega) (by simp) (by simp)
        · have e' : ¬ cmpL z y = 0 := fun h => e ((cmpL_zero _ _).1 h)
          simp [e', show LenOk 24 (o.length + 1 + 1) from ⟨by omega, by simp only [maxLen]; omega⟩, cP]
          exact back ([], b, o ++ [z] ++ [y]) (MI.swap (hL.2 fun h => e (hI'.last.1 h))) (by simp <;> omega) rfl (by simp <;> omega) (by simp) (by simp)
  · rcases b with _ | ⟨y, b⟩
    · refine anyQ fun Q => ?_
      have hc0 : True := trivial
      have hL := hI.left (by simp)
      rcases nil_or_snoc out with rfl | ⟨o, z, rfl⟩
      · simp [hc0, hpa, hpb, hqa, hqb, List.take_of_length_le, cP, hL24, s80_13, ]
        exact back (a, [], [x]) ((hL.2 (by simp))) (by simp <;> omega) rfl (by simp <;> omega) (by simp) (by simp)
      · simp only [List.length_append, List.length_cons, List.length_nil] at hlen
        have hw : IntKind.i64.wrap (o.length : Int) = o.length := wrap64_of (by omega) (by omega)
        have hix : (o.map (cP cI) ++ [[D.pl (z.map cI)]])[o.length]? = some [D.pl (z.map cI)] := by rw [List.getElem?_append_right (by simp)]; simp
        simp [hc0, hpa, hpb, hqa, hqb, List.take_of_length_le, hw, hix, cP, s80_13, ]
        refine call_f (w_spec_CompareRows z x) (by simp) rfl fun hs3 hh3 => ?_
        simp at hh3
        by_cases e : z = x
        · subst e
          simp [cmpL_self]
          exact back (a, [], o ++ [z]) ((hL.1 (hI.last.2 rfl))) (by simp <;> omega) rfl (by simp <;> omega) (by simp) (by simp)
        · have e' : ¬ cmpL z x = 0 := fun h => e ((cmpL_zero _ _).1 h)
          simp [e', show LenOk 24 (o.length + 1 + 1) from ⟨by omega, by simp only [maxLen]; omega⟩, cP]
          exact back (a, [], o ++ [z] ++ [x]) ((hL.2 fun h => e (hI.last.1 h))) (by simp <;> omega) rfl (by simp <;> omega) (by simp) (by simp)
    · refine anyQ fun Q => ?_
      simp [cP, hpa, hpb, s80_13, ]
      refine call_f (w_spec_CompareRows x y) (by simp) rfl fun hs0 hh0 => ?_
      simp at hh0
      by_cases hc0 : 0 < cmpL x y
      · have hI' := hI.swap
        have hL := hI'.left (hI.hr hc0)
        rcases nil_or_snoc out with rfl | ⟨o, z, rfl⟩
        · simp [hc0, hpa, hpb, hqa, hqb, List.take_of_length_le, cP, hL24, s80_13, ]
          exact back ((x :: a), b, [y]) (MI.swap (hL.2 (by simp))) (by simp <;> omega) rfl (by simp <;> omega) (by simp) (by simp)
        · simp only [List.length_append, List.length_cons, List.length_nil] at hlen
          have hw : IntKind.i64.wrap (o.length : Int) = o.length := wrap64_of (by omega) (by omega)
          have hix : (o.map (cP cI) ++ [[D.pl (z.map cI)]])[o.length]? = some [D.pl (z.map cI)] := by rw [List.getElem?_append_right (by simp)]; simp
          simp [hc0, hpa, hpb, hqa, hqb, List.take_of_length_le, hw, hix, cP, s80_13, ]
          refine call_f (w_spec_CompareRows z y) (by simp) rfl fun hs3 hh3 => ?_
          simp at hh3
          by_cases e : z = y
          · subst e
            simp [cmpL_self]
            exact back ((x :: a), b, o ++ [z]) (MI.swap (hL.1 (hI'.last.2 rfl))) (by simp <;> omega) rfl (by simp <;> omega) (by simp) (by simp)
          · have e' : ¬ cmpL z y = 0 := fun h => e ((cmpL_zero _ _).1 h)
            simp [e', show LenOk 24 (o.length + 1 + 1) from ⟨by omega, by simp only [maxLen]; omega⟩, cP]
            exact back ((x :: a), b, o ++ [z] ++ [y]) (MI.swap (hL.2 fun h => e (hI'.last.1 h))) (by simp <;> omega) rfl (by simp <;> omega) (by simp) (by simp)
      · 
        have hL := hI.left (hI.hl hc0)
        rcases nil_or_snoc out with rfl | ⟨o, z, rfl⟩
        · simp [hc0, hpa, hpb, hqa, hqb, List.take_of_length_le, cP, hL24, s80_13, ]
          exact back (a, (y :: b), [x]) ((hL.2 (by simp))) (by simp <;> omega) rfl (by simp <;> omega) (by simp) (by simp)
        · simp only [List.length_append, List.length_cons, List.length_nil] at hlen
          have hw : IntKind.i64.wrap (o.length : Int) = o.length := wrap64_of (by omega) (by omega)
          have hix : (o.map (cP cI) ++ [[D.pl (z.map cI)]])[o.length]? = some [D.pl (z.map cI)] := by rw [List.getElem?_append_right (by simp)]; simp
          simp [hc0, hpa, hpb, hqa, hqb, List.take_of_length_le, hw, hix, cP, s80_13, ]
          refine call_f (w_spec_CompareRows z x) (by simp) rfl fun hs3 hh3 => ?_
          simp at hh3
          by_cases e : z = x
          · subst e
            simp [cmpL_self]
            exact back (a, (y :: b), o ++ [z]) ((hL.1 (hI.last.2 rfl))) (by simp <;> omega) rfl (by simp <;> omega) (by simp) (by simp)
          · have e' : ¬ cmpL z x = 0 := fun h => e ((cmpL_zero _ _).1 h)
            simp [e', show LenOk 24 (o.length + 1 + 1) from ⟨by omega, by simp only [maxLen]; omega⟩, cP]
            exact back (a, (y :: b), o ++ [z] ++ [x]) ((hL.2 fun h => e (hI.last.1 h))) (by simp <;> omega) rfl (by simp <;> omega) (by simp) (by simp)

end Go.Proofs.Ytohbmjknaeenjaa

namespace Go.Proofs.Ytohbmjknaeenjaa
open Go.Vs Go.Proofs Go
set_option maxRecDepth 100000
set_option maxHeartbeats 1000000

theorem w_spec_NewRelation (ar : Int) (l : List (List Int)) (hb : l.length ≤ 4294967296) (hn : ∀ x ∈ l, x.length ≤ 4294967296) : VC Try.prog 51 [.d (.int .i64 ar), .d (pS (cP cI) l)] (fun _ v => v = .tup [.agg ((eReln (newR ar l)).map .d), .d (.bool (newB ar l))]) := by
  refine VC.ofL EP s51 (by kernel_rfl) Try.func51 (by rfl) (by kernel_rfl) (by simp [Try.f51]) (by simp [Try.f51]) s51_ok fun B hl => ?_
  simp [Try.f51, eReln]
  refine loop_rule (X := Nat) (fun i => i ≤ l.length ∧ AllTo (fun r : List Int => decide ((r.length : Int) = ar) && valsOk r) l i) (fun i => [(0, .d (.int .i64 ar)), (1, .d (.pl (l.map (cP cI)))), (4, .ptr 4 0 0), (6, .d (.int .i64 i))])
    (fun i => [(4, some (.box [.d (.int .i64 0), .d (.sl none none [])]))]) (fun i => l.length - i) 0 ⟨by simp, allTo_zero⟩ (by simp) (by simp) ?_
  intro i hs t m hi hh
  by_cases hlt : i < l.length
  · have hwi := wr1 (i := i) (by omega)
    by_cases hln : (l[i].length : Int) = ar
    · simp [hlt, hln, cP, ]
      refine call_f (w_spec_AreValidValues l[i]) (by simp) rfl fun hs1 hh1 => ?_
      simp at hh1
      cases hv : valsOk l[i]
      · have hbad := all_bad (p := fun r : List Int => decide ((r.length : Int) = ar) && valsOk r) hlt (by simp [hv])
        simp [newR, newB, hbad, eReln]
      · simp [hwi]
        exact back (i + 1) ⟨by omega, allTo_step hi.2 hlt (by simp [hv, hln])⟩ (by omega) rfl (by simp <;> omega) (by simp) (by simp)
    · have hbad := all_bad (p := fun r : List Int => decide ((r.length : Int) = ar) && valsOk r) hlt (by simp [hln])
      simp [hlt, hln, newR, newB, hbad, eReln, ]
  · have hd := allTo_done hi.2 (by omega)
    have hsl := srtU_len l
    simp [hlt, ]
    refine call_p (w_spec_l5Sort _ l (Nat.le_refl _) hb) (by simp) fun hs1 hh1 _ => ?_
    simp at hh1
    simp []
    refine call_p (w_spec_l5Copy ⟨ar, srtU l⟩ (by simp; omega) (fun x hx => hn x ((srtU_mem l x).1 hx))) (by simp [eReln]) fun hs2 hh2 _ => ?_
    simp at hh2
    simp [eReln]
    refine call_f (w_spec_IsValidRelation ⟨ar, srtU l⟩) (by simp [eReln]) rfl fun hs3 hh3 => ?_
    simp at hh3
    cases h1 : rowsOk ar (srtU l)
    · simp [newR, newB, h1, eReln]
    · simp [newR, newB, h1, hd, eReln]

end Go.Proofs.Ytohbmjknaeenjaa

namespace Go.Proofs.Ytohbmjknaeenjaa
open Go.Vs Go.Proofs Go
set_option maxRecDepth 100000
set_option maxHeartbeats 1000000

theorem e_impl_sorted : ∀ (n : Nat) (l : List (List Int)), l.length ≤ n → l.length ≤ 4294967296 → (∀ r ∈ l, r.length ≤ 4294967296) →
   VC Try.prog 68 [.d (pS (cP cI) l)] (fun m r => ∃ y : Sl Ints, r = .d (dSl (cS cI) y) ∧ plS (plS plI) y = srtU l ∧ okS (okS okI) y ∧ Good (cS (cS cI) y) (whS (whS whI) y) m) := by
  intro n
  induction n with
  | zero =>
    intro l hn hb hb2
    have : l = [] := List.length_eq_zero_iff.1 (by omega)
    subst this
    refine VC.of E s68 (by kernel_rfl) Try.func68 (by rfl) (by kernel_rfl) (by simp [Try.f68]) (by simp [Try.f68]) s68_ok fun B => ?_
    simp [Try.f68, s68_4, s68_11, s68_4, s68_11, pS]
    refine call_some (e_impl_copyRows [] (by simp) (by simp)) (by simp [pS]) (by simp) fun n1 hs1 r1 hn1 hm1 hp1 hr1 => ?_
    obtain ⟨y, rfl, p1, k1, G1⟩ := hp1
    simp at hn1
    simp
    exact ⟨y, rfl, by rw [p1]; rfl, k1, G1.le (by omega)⟩
  | succ n ih =>
  intro l hn hb hb2
  refine VC.of E s68 (by kernel_rfl) Try.func68 (by rfl) (by kernel_rfl) (by simp [Try.f68]) (by simp [Try.f68]) s68_ok fun B => ?_
  by_cases h2 : l.length < 2
  · have e : srtU l = l := srtU_id (by
      match l, h2 with
      | [], _ => exact .nil
      | [_], _ => simp
      | _ :: _ :: _, h => simp only [List.length_cons] at h; omega)
    simp [Try.f68, s68_4, s68_11, s68_4, s68_11, pS, show ((l.length : Int) < 2) by omega]
    refine call_some (e_impl_copyRows l hb hb2) (by simp [pS]) (by simp) fun n1 hs1 r1 hn1 hm1 hp1 hr1 => ?_
    obtain ⟨y, rfl, p1, k1, G1⟩ := hp1
    simp at hn1
    simp
    exact ⟨y, rfl, by rw [p1, e], k1, G1.le (by omega)⟩
  obtain ⟨k, hk⟩ : ∃ k, k = l.length / 2 := ⟨_, rfl⟩
  have hm : IntKind.i64.wrap ((l.length : Int) / 2) = (k : Int) := by rw [wrap64_of (by omega) (by omega)]; omega
  have hkl : k ≤ l.length := by omega
  simp [Try.f68, s68_4, s68_11, s68_4, s68_11, pS, show ¬ ((l.length : Int) < 2) by omega, hm, hkl]
  have hA := ih (l.take k) (by simp; omega) (by simp; omega) (fun r hr => hb2 r (List.mem_of_mem_take hr))
  have hB' := ih (l.drop k) (by simp; omega) (by simp; omega) (fun r hr => hb2 r (List.mem_of_mem_drop hr))
  simp only [pS, List.map_take] at hA
  simp only [pS, List.map_drop] at hB'
  refine call_some hA (by simp) (by simp) fun n1 hs1 r1 hn1 hm1 hp1 hr1 => ?_
  obtain ⟨ya, rfl, p1, k1, G1⟩ := hp1
  simp at hn1
  simp [hm, hkl, List.take_of_length_le, s68_4, s68_11, ]
  refine call_some hB' (by simp) (by simp) fun n2 hs2 r2 hn2 hm2 hp2 hr2 => ?_
  obtain ⟨yb, rfl, p2, k2, G2⟩ := hp2
  simp at hn2
  have hst := MJ.start l k
  rw [← p1, ← p2] at hst
  obtain ⟨aid, aT, as_⟩ := ya
  obtain ⟨bid, bT, bs_⟩ := yb
  have u1 : ∀ g ∈ idsLL (as_.map (cS cI)), g < hs1 := fun g hg => hr1 g (by rw [V.ids]; exact mem_sl_ids.2 (.inr hg))
  have own0 : OwnR B ([] ++ (as_ ++ bs_)) := by
    have g1 := G1.nd
    have g2 := G2.nd
    rw [idsL_cS] at g1 g2
    have h1 := (sl_nd g1).1
    have h2 := (sl_nd g2).1
    have e : idsLL ((as_ ++ bs_).map (cS cI)) = idsLL (as_.map (cS cI)) ++ idsLL (bs_.map (cS cI)) := by rw [List.map_append, idsLL_append]
    have l1 : ∀ g ∈ idsLL (as_.map (cS cI)), B ≤ g := fun g hg => by have := G1.lo g (by rw [idsL_cS]; exact mem_sl_ids.2 (.inr hg)); omega
    have l2 : ∀ g ∈ idsLL (bs_.map (cS cI)), n2 ≤ g := fun g hg => G2.lo g (by rw [idsL_cS]; exact mem_sl_ids.2 (.inr hg))
    refine ⟨?_, ?_, fun r hr => ?_, fun r hr => ?_⟩
    · rw [List.nil_append, e]
      exact List.nodup_append.2 ⟨h1, h2, fun x hx y hy hxy => by subst hxy; have := u1 x hx; have := l2 x hy; omega⟩
    · intro g hg
      rw [List.nil_append, e] at hg
      rcases List.mem_append.1 hg with h | h
      · exact l1 g h
      · have := l2 g h; omega
    · rcases (by simpa using hr : r ∈ as_ ∨ r ∈ bs_) with h | h
      · exact G1.wh.2 r h
      · exact G2.wh.2 r h
    · rcases (by simpa using hr : r ∈ as_ ∨ r ∈ bs_) with h | h
      · exact k1.2 r h
      · exact k2.2 r h
  clear hr1 hr2 u1
  simp [dSl, s68_4, s68_11, ]
  refine loop_ruleL (X := List Ints × List Ints × List Ints × Option (TypeId × Nat) × Option (TypeId × Nat)) (fun p _ => SrtI l B p) (fun p => [(4, .d (.sl aid p.2.2.2.1 (p.1.map (cS cI)))), (5, .d (.sl bid p.2.2.2.2 (p.2.1.map (cS cI)))), (6, .own 52 0 p.2.2.1.length)])
    (fun p => [(52, some (.row 26 1 (p.2.2.1.map (cS cI))))]) (fun p => p.1.length + p.2.1.length) ?_ ?_
  · refine (lead_slot 6 52 26 1 (by omega) (by omega) (by simp)).bind ?_
    rintro _ rfl
    exact Lead.of ⟨(as_, bs_, [], aT, bT), ⟨hst, own0⟩, rfl, rfl, Nat.le_refl _, by simp, by simp⟩
  rintro ⟨a, b, o, Ta, Tb⟩ hs t m hI hh
  have hlen := hI.mj.len
  simp only [List.length_map] at hlen
  have hpa : ∀ a : List Ints, (0 : Int) < (a.length : Int) + 1 := fun a => by omega
  have hpb : ∀ a : List Ints, ¬ (a.length : Int) + 1 = 0 := fun a => by omega
  rcases a with _ | ⟨x, a⟩
  · rcases b with _ | ⟨y, b⟩
    · have hd := hI.mj.done
      simp only at hd
      simp [s68_4, s68_11, ]
      intro γ hs' h1 hg
      obtain ⟨q1, q2⟩ := gam_at hg (k := 52) (T := 26) (sz := 1) (es := o.map (cS cI)) (by simp)
      have q3 := gam_row hg (k := 52) (T := 26) (sz := 1) (es := o.map (cS cI)) (by simp)
      clear hg
      have hown : OwnR B o := by have := hI.own; simpa using this
      have hp : hpLL (o.map (cS cI)) = false := hpLL_mapS o
      simp only [List.length_nil] at hlen
      exact ⟨⟨γ 52, some (26, 1), o⟩, by simp [dSl, List.take_of_length_le], by simpa [plS] using hd, ⟨by simp only [maxLen]; show o.length ≤ _; omega, hown.ok⟩, good_row (fun g hg => (q1 g hg).1) (by simpa using q2) q3 ⟨hown.nd, hown.lo⟩ hown.wh⟩
    · simp only [List.length_cons, List.length_nil] at hlen
      have hL : LenOk 24 (o.length + 1) := ⟨by omega, by simp only [maxLen]; omega⟩
      refine anyQ2 fun Q => ?_
      simp [hpa, hpb, hL, cS, dSl, s68_4, s68_11, ]
      exact back2 ([], b, o ++ [y], Ta, (if bid.isSome = true then none else Tb)) (hI.right (by simp)) (by simp <;> omega) rfl (by simp <;> omega) (by simp [cS, dSl, List.take_of_length_le]) (by simp [cS, dSl])
  · rcases b with _ | ⟨y, b⟩
    · simp only [List.length_cons, List.length_nil] at hlen
      have hL : LenOk 24 (o.length + 1) := ⟨by omega, by simp only [maxLen]; omega⟩
      refine anyQ2 fun Q => ?_
      simp [hpa, hpb, hL, cS, dSl, s68_4, s68_11, ]
      exact back2 (a, [], o ++ [x], (if aid.isSome = true then none else Ta), Tb) (hI.left (by simp)) (by simp <;> omega) rfl (by simp <;> omega) (by simp [cS, dSl, List.take_of_length_le]) (by simp [cS, dSl])
    · simp only [List.length_cons] at hlen
      have hL : LenOk 24 (o.length + 1) := ⟨by omega, by simp only [maxLen]; omega⟩
      have hM := hI.mj
      simp only [List.map_cons] at hM
      refine anyQ2 fun Q => ?_
      simp [hpa, hpb, cS, dSl, s68_4, s68_11, ]
      refine call_f (w_impl_CompareRows (plS plI x) (plS plI y)) (by simp [plS, pS, erLL_map er_cI, map_plI]) rfl fun hs3 hh3 => ?_
      simp at hh3
      by_cases c1 : cmpL (plS plI x) (plS plI y) < 0
      · have c2 : cmpL (plS plI x) (plS plI y) ≤ 0 := by omega
        have c3 : ¬ 0 ≤ cmpL (plS plI x) (plS plI y) := by omega
        simp [c2, c3, hL, cS, dSl, s68_4, s68_11, ]
        exact back2 (a, y :: b, o ++ [x], (if aid.isSome = true then none else Ta), Tb) (hI.left (hM.less c1)) (by simp <;> omega) rfl (by simp <;> omega) (by simp [cS, dSl, List.take_of_length_le]) (by simp [cS, dSl])
      by_cases c4 : cmpL (plS plI x) (plS plI y) = 0
      · have e := (cmpL_zero _ _).1 c4
        simp [c4, hL, cS, dSl, s68_4, s68_11, ]
        exact back2 (a, b, o ++ [x], (if aid.isSome = true then none else Ta), (if bid.isSome = true then none else Tb)) (hI.both e) (by simp <;> omega) rfl (by simp <;> omega) (by simp [cS, dSl, List.take_of_length_le]) (by simp [cS, dSl])
      · have c2 : ¬ cmpL (plS plI x) (plS plI y) ≤ 0 := by omega
        have c3 : 0 ≤ cmpL (plS plI x) (plS plI y) := by omega
        have c5 : 0 < cmpL (plS plI x) (plS plI y) := by omega
        have c6 : cmpL (plS plI y) (plS plI x) < 0 := by have := cmpL_swap (plS plI x) (plS plI y); omega
        simp [c2, c3, c5, hL, cS, dSl, s68_4, s68_11, ]
        exact back2 (x :: a, b, o ++ [y], Ta, (if bid.isSome = true then none else Tb)) (hI.right (hM.swap.less c6)) (by simp <;> omega) rfl (by simp <;> omega) (by simp [cS, dSl, List.take_of_length_le]) (by simp [cS, dSl])

end Go.Proofs.Ytohbmjknaeenjaa

namespace Go.Proofs.Ytohbmjknaeenjaa
open Go.Vs Go.Proofs Go
set_option maxRecDepth 100000
set_option maxHeartbeats 1000000

theorem t_impl_CountedFromRelation (a : Reln) (ha : okReln a) : VC Try.prog 40 [.agg ((cReln a).map V.d)]
   (fun n r => ∃ y : Cnt, r = .tup [.agg ((cCnt y).map V.d), .d (.bool (rowsOk (plReln a).ar (plReln a).rows))] ∧ plCnt y = cntOf (plReln a) ∧ okCnt y ∧ Good (cCnt y) (whCnt y) n) := by
  refine VC.of E s40 (by kernel_rfl) Try.func40 (by rfl) (by kernel_rfl) (by simp [Try.f40]) (by simp [Try.f40]) s40_ok fun B => ?_
  simp [Try.f40, s40_3, cReln, cS, cI]
  refine call_f (w_impl_IsValidRelation (plReln a)) (by simp [eReln, er_SI, plI]) rfl fun hs0 hh0 => ?_
  simp at hh0
  cases h1 : rowsOk a.ar (plS (plS plI) a.rows)
  · have h1' : rowsOk (plReln a).ar (plReln a).rows = false := h1
    simp [h1, plI]
    exact ⟨⟨0, nilS, nilS⟩, by simp [cCnt, nilS, cS, dSl], by simp only [cntOf, h1']; rfl, ⟨trivial, ok_nilS, ok_nilS⟩, good_Cnt0 B⟩
  have h1' : rowsOk (plReln a).ar (plReln a).rows = true := h1
  have hlen := rowsOk_len h1
  have hrow := rowsOk_row h1
  have hl1 : a.rows.xs.length ≤ 4000 := by simpa [plS] using hlen
  have hl2 : ∀ r ∈ a.rows.xs, r.xs.length ≤ 4294967296 := fun r hr => by
    have := hrow (plS plI r) (List.mem_map_of_mem hr)
    simp [plS] at this; omega
  simp [h1, s40_3, ]
  repeat' apply And.intro
  all_goals
    refine call_some (w_impl_copyRows a.rows ha.2 (by omega) hl2) rfl (by simp) fun n1 hs1 r1 hn1 hm1 hp1 hr1 => ?_
    obtain ⟨y1, rfl, p1, k1, G1⟩ := hp1
    have u1 : ∀ g ∈ idsL (cS (cS cI) y1), g < hs1 := fun g hg => hr1 g (by rw [idsL_cS] at hg; exact hg)
    simp at hn1
    have hy1 : y1.xs.length = a.rows.xs.length := by have := congrArg List.length p1; simpa [plS] using this
    simp [cS, cI, dSl, s40_3, ]
    refine loop_ruleL (X := Nat) (fun i _ => i ≤ a.rows.xs.length) (fun i => [(2, .ptr 2 0 0), (4, .ptr 4 0 0), (17, .d (.int .i64 a.rows.xs.length)), (18, .d (.int .i64 i))])
      (fun i => [(2, some (.box [.d (.int .i64 0), .d (.sl none none []), .d (.sl none none [])])), (4, some (.box [.d (.int .i64 a.ar), .d (dSl (cS cI) y1), .own 23 0 i])), (23, some (.row 3 1 ((List.replicate i 1).map cI)))]) (fun i => a.rows.xs.length - i) ?_ ?_
    · refine (lead_box 4 2 23 3 1 [.d (.int .i64 a.ar), .d (dSl (cS cI) y1), .d (.sl none none [])] (by omega) (by omega) (by omega) (by simp [dSl]) rfl).bind ?_
      rintro _ rfl
      exact Lead.of ⟨0, by simp, rfl, rfl, Nat.le_refl _, by simp, by simp [dSl]⟩
    · intro i hs t m hi hh
      by_cases hlt : i < a.rows.xs.length
      · have hwi := wr1 (i := i) (by omega)
        have hL : LenOk 8 (i + 1) := ⟨by omega, by simp only [maxLen]; omega⟩
        simp [hlt, hwi, hL, s40_3, ]
        refine back2 (i + 1) (by omega) (by omega) rfl (by simp) (by simp) ?_
        simp [List.replicate_succ']
      · have hn : i = a.rows.xs.length := by omega
        subst hn
        simp [List.take_of_length_le]
        intro γ hs' h2 hg
        obtain ⟨q1, q2⟩ := gam_at hg (k := 23) (T := 3) (sz := 1) (es := (List.replicate a.rows.xs.length 1).map cI) (by simp)
        have qf : ∀ g, γ 23 = some g → g ∉ (dSl (cS cI) y1).ids := fun g hγ => by
          have hb := (hg.fr 23 3 1 _ g (by simp; rfl) hγ).1.box 4 [.d (.int .i64 a.ar), .d (dSl (cS cI) y1), .own 23 0 a.rows.xs.length] (by simp)
          simpa [V.ids, idsVL, D.ids, idsLL] using hb
        clear hg
        refine ⟨⟨a.ar, y1, ⟨γ 23, some (3, 1), List.replicate a.rows.xs.length 1⟩⟩, by simp [cCnt, cS, cI, dSl, h1], ?_, ⟨trivial, k1, ⟨by simp only [maxLen, List.length_replicate]; omega, fun _ _ => trivial⟩⟩, good_Cnt G1 (by omega) (fun g hg => (q1 g hg).1) (by simpa using q2) qf⟩
        simp only [cntOf, h1', plCnt]
        simp [plS, plReln] at p1 ⊢
        exact p1

end Go.Proofs.Ytohbmjknaeenjaa

namespace Go.Proofs.Ytohbmjknaeenjaa
open Go.Vs Go.Proofs Go
set_option maxRecDepth 100000
set_option maxHeartbeats 1000000

theorem t_impl_settled (a : Cnt) (ha : okCnt a) (hl1 : a.rows.xs.length ≤ 4294967296) (hl2 : a.cs.xs.length = a.rows.xs.length) : VC Try.prog 75 [.agg ((cCnt a).map V.d)]
   (fun n r => ∃ y : Cnt, r = .agg ((cCnt y).map V.d) ∧ plCnt y = ⟨a.ar, (sttl (plCnt a).rows (plCnt a).cs).map Prod.fst, (sttl (plCnt a).rows (plCnt a).cs).map Prod.snd⟩ ∧ okCnt y ∧
     (∀ B, B ≤ n → Good (cS (cS cI) a.rows) (whS (whS whI) a.rows) B → Good (cCnt y) (whCnt y) B)) := by
  refine VC.of E s75 (by kernel_rfl) Try.func75 (by rfl) (by kernel_rfl) (by simp [Try.f75]) (by simp [Try.f75]) s75_ok fun B => ?_
  simp [Try.f75, s75_6, cCnt, cS, cI, dSl]
  obtain ⟨ar, ⟨rid, rT, l⟩, ⟨cid, cT, cs⟩⟩ := a
  simp only at hl1 hl2 ⊢
  refine loop_ruleL (X := Nat) (fun i _ => i ≤ cs.length) (fun i => [(1, .ptr 1 0 0), (2, .ptr 2 0 0), (3, .ptr 3 0 0), (10, .d (.sl cid cT (cs.map cI))), (11, .d (.int .i64 cs.length)), (12, .d (.int .i64 i))])
    (fun i => [(1, some (.box [.d (.int .i64 ar), .d (.sl rid rT (l.map (cS cI))), .d (.sl cid cT (cs.map cI))])), (2, some (.box [.d (.int .i64 0), .d (.sl none none []), .d (.sl none none [])])),
      (3, some (.box [.d (.int .i64 ar), .own 27 0 (sttl (l.take i) (cs.take i)).length, .own 33 0 (sttl (l.take i) (cs.take i)).length])),
      (27, some (.row 26 1 (((sttl (l.take i) (cs.take i)).map Prod.fst).map (cS cI)))), (33, some (.row 3 1 (((sttl (l.take i) (cs.take i)).map Prod.snd).map cI)))]) (fun i => cs.length - i) ?_ ?_
  · refine (lead_box 3 1 27 26 1 [.d (.int .i64 ar), .d (.sl none none []), .d (.sl none none [])] (by omega) (by omega) (by omega) (by simp) rfl).bind ?_
    rintro _ rfl
    refine (lead_box 3 2 33 3 1 [.d (.int .i64 ar), .own 27 0 0, .d (.sl none none [])] (by omega) (by omega) (by omega) (by simp) rfl).bind ?_
    rintro _ rfl
    exact Lead.of ⟨0, by simp, rfl, rfl, Nat.le_refl _, by simp, by simp [sttl, dSl]⟩
  · intro i hs t m hi hh
    by_cases hlt : i < cs.length
    · have hwi := wr1 (i := i) (by omega)
      have hil : i < l.length := by omega
      have hss := settle_step (rs := l) (cs := cs) hil hlt
      have hsl : (sttl (l.take i) (cs.take i)).length ≤ i := settle_len (by omega)
      refine anyQ2 fun Q => ?_
      by_cases h0 : cs[i] = 0
      · rw [if_pos h0, List.append_nil] at hss
        simp [hlt, hil, h0, hwi, s75_6, ]
        exact back2 (i + 1) (by omega) (by omega) rfl (by simp <;> omega) (by simp) (by simp [hss])
      · rw [if_neg h0] at hss
        have hLa : LenOk 24 ((sttl (l.take i) (cs.take i)).length + 1) := ⟨by omega, by simp only [maxLen]; omega⟩
        have hLb : LenOk 8 ((sttl (l.take i) (cs.take i)).length + 1) := ⟨by omega, by simp only [maxLen]; omega⟩
        simp [hlt, hil, h0, hwi, hLa, hLb, cS, dSl, s75_6, ]
        exact back2 (i + 1) (by omega) (by omega) rfl (by simp <;> omega) (by simp) (by simp [hss, cS, cI, dSl])
    · have hn : i = cs.length := by omega
      subst hn
      have hsl : (sttl l cs).length ≤ l.length := by
        have := settle_len (rs := l) (cs := cs) (Nat.le_refl l.length)
        rw [List.take_length, List.take_of_length_le (l := cs) (by omega)] at this
        exact this
      simp [List.take_of_length_le, hl2, s75_6, ]
      intro γ hs' h2 hg
      obtain ⟨q1, q2⟩ := gam_at hg (k := 27) (T := 26) (sz := 1) (es := (sttl l cs).map (cS cI ∘ Prod.fst)) (by simp)
      obtain ⟨q3, q4⟩ := gam_at hg (k := 33) (T := 3) (sz := 1) (es := (sttl l cs).map (cI ∘ Prod.snd)) (by simp)
      have r1 := gam_row hg (k := 27) (T := 26) (sz := 1) (es := (sttl l cs).map (cS cI ∘ Prod.fst)) (by simp)
      have r2 := gam_row2 hg (k := 33) (T := 3) (sz := 1) (es := (sttl l cs).map (cI ∘ Prod.snd)) (k2 := 27) (T2 := 26) (sz2 := 1) (es2 := (sttl l cs).map (cS cI ∘ Prod.fst)) (by simp) (by simp)
      have r3 : ∀ g, γ 27 = some g → γ 33 = some g → False := fun g h h' => by
        have := hg.ne 27 33 (.row 26 1 ((sttl l cs).map (cS cI ∘ Prod.fst))) (.row 3 1 ((sttl l cs).map (cI ∘ Prod.snd))) g (by simp) (by simp) h h'
        omega
      clear hg
      have em : (sttl l cs).map (cS cI ∘ Prod.fst) = ((sttl l cs).map Prod.fst).map (cS cI) := by simp
      rw [em] at r1 r2
      have hp1 : hpLL ((sttl l cs).map (cS cI ∘ Prod.fst)) = false := hpLL_map (fun a => by simp) _
      have hp2 : hpLL ((sttl l cs).map (cI ∘ Prod.snd)) = false := hpLL_map (fun a => by simp) _
      simp [hp1, hp2, List.take_of_length_le]
      have hsub := sttl_sub l cs
      refine ⟨⟨ar, ⟨γ 27, some (26, 1), (sttl l cs).map Prod.fst⟩, ⟨γ 33, some (3, 1), (sttl l cs).map Prod.snd⟩⟩, by simp [hp1, hp2, cCnt, cS, cI, dSl, List.take_of_length_le], ?_, ⟨trivial, ⟨by simp only [maxLen, List.length_map]; omega, fun r hr => ha.2.1.2 r (hsub.subset hr)⟩, ⟨by simp only [maxLen, List.length_map]; omega, fun _ _ => trivial⟩⟩, ?_⟩
      · simp only [plCnt, plS, map_plI, PCnt.mk.injEq]
        exact ⟨rfl, sttl_fst _ _ _, sttl_snd _ _ _⟩
      · intro B' hB' G
        have G : Good (cS (cS cI) ⟨rid, rT, l⟩) (whS (whS whI) ⟨rid, rT, l⟩) B' := G
        have hG := G.nd
        rw [idsL_cS] at hG
        have hG2 := (sl_nd hG).1
        have hlo : ∀ g ∈ idsLL (((sttl l cs).map Prod.fst).map (cS cI)), B' ≤ g := fun g hg => G.lo g (by
          rw [idsL_cS]
          exact mem_sl_ids.2 (.inr ((ids_sub hsub).subset hg)))
        have := good_Cnt2 (ar := ar) (T1 := (26, 1)) (T2 := (3, 1)) (hG2.sublist (ids_sub hsub)) hlo (fun r hr => G.wh.2 r (hsub.subset hr)) (fun g h => ⟨Nat.le_trans hB' (q1 g h).1, r1 g h⟩) (by simpa using q2) (fun g h => ⟨Nat.le_trans hB' (q3 g h).1, r2 g h⟩) (cs := (sttl l cs).map Prod.snd) (by simpa using q4) r3
        exact this

end Go.Proofs.Ytohbmjknaeenjaa

namespace Go.Proofs.Ytohbmjknaeenjaa
open Go.Vs Go.Proofs Go
set_option maxRecDepth 100000
set_option maxHeartbeats 1000000

theorem w_impl_copyIntsT (a : Ints) (ha : okS okI a) (hb : a.xs.length ≤ 4294967296) :
   VC Try.prog 76 [.d (dSl cI a)] (fun n r => ∃ y : Sl Int, r = .d (dSl cI y) ∧ plS plI y = plS plI a ∧ okS okI y ∧ Good (cS cI y) (whS whI y) n ∧ y.T = some (3, 1)) := by
  refine VC.of E s76 (by kernel_rfl) Try.func76 (by rfl) (by kernel_rfl) (by simp [Try.f76]) (by simp [Try.f76]) s76_ok fun B => ?_
  have hL : LenOk 8 a.xs.length := ⟨by omega, by simp only [maxLen]; omega⟩
  simp [Try.f76, dSl, hL, cI]
  intro γ hs' h1 hg
  obtain ⟨q1, q2⟩ := gam_at hg (k := 3) (T := 3) (sz := 1) (es := a.xs.map cI) (by simp [cI])
  have q3 := gam_row hg (k := 3) (T := 3) (sz := 1) (es := a.xs.map cI) (by simp [cI])
  clear hg
  refine ⟨⟨γ 3, some (3, 1), a.xs⟩, ⟨⟨rfl, rfl, by simp [List.take_of_length_le]⟩, rfl, ha, good_row (fun g hg => (q1 g hg).1) (by simpa using q2) q3 ⟨by simp, by simp⟩ (by simp [whI]), rfl⟩⟩
theorem t_impl_tally (c : Cnt) (row : Sl Int) (n : Int) (hc : okCnt c) (hr : okS okI row) (hw : whS whI c.cs) (hnd : (idsL (cCnt c)).Nodup) (hb : c.rows.xs.length ≤ 1000000) (hl2 : c.cs.xs.length = c.rows.xs.length) (hlr : row.xs.length ≤ 4294967296)
   (hn : -1000000 ≤ n ∧ n ≤ 1000000) (hv : ∀ v ∈ c.cs.xs, -1000000000000 ≤ v ∧ v ≤ 1000000000000) :
   VX Try.prog 73 (dSl cI c.cs).ids [.ptr 1000 0 0, .d (dSl cI row), .d (.int .i64 n)] (some ((cCnt c).map V.d))
    (fun m r bx' ws => r = .tup [] ∧ ∃ y : Cnt, bx' = (cCnt y).map V.d ∧ plCnt y = ⟨c.ar, insR (plCnt c).rows row.xs, insC (plCnt c).rows c.cs.xs row.xs n⟩ ∧ okCnt y ∧ (∃ d, ws = [d]) ∧
      (∀ B, B ≤ m → Good (cCnt c) (whCnt c) B → (∀ g ∈ idsL (cCnt c), g < m) → Good (cCnt y) (whCnt y) B)) := by
  refine VX.of E s73 (by kernel_rfl) Try.func73 (by rfl) (by kernel_rfl) (by simp [Try.f73]) (by simp [Try.f73]) s73_ok ?_ ?_ fun B hB => ?_
  · intro g hg; right; show g ∈ idsVL ((cCnt c).map V.d); rw [idsVL_map_d, cCnt, idsL_app, idsL_app, idsL_cS, idsL_cS]; simp [hg]
  · intro bs h; obtain rfl := Option.some.inj h; rfl
  obtain ⟨ar, ⟨rid, rT, l⟩, ⟨cid, cT, cs⟩⟩ := c
  simp only at hw hb hl2 hv ⊢
  have hnd2 : ∀ g, cid = some g → g ∉ (dSl (cS cI) ⟨rid, rT, l⟩).ids := fun g hg hm => by
    rw [cCnt, idsL_app, idsL_app, idsL_cS, idsL_cS] at hnd
    exact (List.nodup_append.1 hnd).2.2 g (by simp [hm]) g (mem_sl_ids.2 (.inl hg)) rfl
  simp [Try.f73, s73_3, s73_4, cCnt, cS, cI, dSl]
  have hlr2 : row.xs.length ≤ maxLen := hr.1
  refine call_f (w_impl_place (plS (plS plI) ⟨rid, rT, l⟩) row.xs (by simpa [plS] using (by omega : l.length ≤ 4294967296))) (by simp [pS, plS, er_cS, erLL_map er_cI, erLL_map (er_cS er_cI), map_plI]) rfl fun hs1 hh1 => ?_
  simp at hh1
  obtain ⟨L, hL⟩ : ∃ L, L = l.map (plS plI) := ⟨_, rfl⟩
  have hLl : L.length = l.length := by rw [hL, List.length_map]
  have hpl : plS (plS plI) (⟨rid, rT, l⟩ : Sl (Sl Int)) = L := by rw [hL]; rfl
  have hk := placeK_le L row.xs
  simp only [hpl]
  obtain ⟨k, hkk⟩ : ∃ k, k = placeK L row.xs := ⟨_, rfl⟩
  simp only [← hkk] at hk ⊢
  cases hb1 : placeB L row.xs
  · have e0 : LenOk 24 k := ⟨by omega, by simp only [maxLen]; omega⟩
    have e1 : LenOk 24 (k + 1) := ⟨by omega, by simp only [maxLen]; omega⟩
    have e2 : LenOk 24 (k + 1 + (l.length - k)) := ⟨by omega, by simp only [maxLen]; omega⟩
    have hkl : k ≤ l.length := by omega
    have hmn : min k l.length = k := by omega
    simp [cS, cI, dSl, hkl, hmn, e0, ← List.map_take, s73_3, s73_4, ]
    refine call_some (w_impl_copyInts row hr hlr) (by simp [dSl, cI]) (by simp) fun n1 hs2 r1 hn1 hm1 hp1 hr1 => ?_
    obtain ⟨w, rfl, pw, kw, Gw⟩ := hp1
    simp at hn1
    simp [cS, cI, dSl, hkl, hmn, e0, e1, e2, ← List.map_take, ← List.map_drop, List.take_of_length_le, s73_3, s73_4, ]
    have hkc : k ≤ cs.length := by omega
    refine ⟨hkc, ?_⟩
    generalize (if cid.isSome = true then none else cT) = T0
    have hC := w_impl_copyIntsT ⟨cid, T0, cs.take k⟩ ⟨by simp only [maxLen, List.length_take]; omega, fun _ _ => trivial⟩ (by simp; omega)
    simp only [dSl] at hC
    repeat' apply And.intro
    all_goals
      refine call_some hC rfl (by simp) fun n2 hs3 r2 hn2 hm2 hp2 hr2 => ?_
      obtain ⟨⟨zid, zT, zx⟩, rfl, pz, kz, Gz, hzT⟩ := hp2
      simp only at hzT
      subst hzT
      have hzx : zx = cs.take k := by simpa [plS, map_plI] using pz
      simp at hn2
      have f1 : LenOk 8 (k + 1) := ⟨by omega, by simp only [maxLen]; omega⟩
      have f2 : LenOk 8 (k + 1 + (cs.length - k)) := ⟨by omega, by simp only [maxLen]; omega⟩
      have hmc : min k cs.length = k := by omega
      cases zid with
      | none =>
        have hz0 : zx = [] := Gz.wh.1.nil rfl
        subst hz0
        have hk0 : k = 0 := by have := congrArg List.length hzx; simp at this; omega
        subst hk0
        have g1 : LenOk 8 1 := ⟨by omega, by simp only [maxLen]; omega⟩
        have g2 : LenOk 8 (1 + cs.length) := ⟨by omega, by simp only [maxLen]; omega⟩
        simp [cI, dSl, g1, g2, vendX, s73_3, s73_4, ]
        refine ⟨[54], fun γ hs' h1 hg => ?_⟩
        obtain ⟨q1, q2⟩ := gam_at hg (k := 29) (T := 26) (sz := 1) (es := (w :: l).map (cS cI)) (by simp [cS, dSl])
        obtain ⟨q3, q4⟩ := gam_at hg (k := 60) (T := 3) (sz := 1) (es := (n :: cs).map cI) (by simp [cI])
        have r1 := gam_row hg (k := 29) (T := 26) (sz := 1) (es := (w :: l).map (cS cI)) (by simp [cS, dSl])
        have r2 := gam_row2 hg (k := 60) (T := 3) (sz := 1) (es := (n :: cs).map cI) (k2 := 29) (T2 := 26) (sz2 := 1) (es2 := (w :: l).map (cS cI)) (by simp [cI]) (by simp [cS, dSl])
        have r3 : ∀ g, γ 29 = some g → γ 60 = some g → False := fun g h h' => by
          have := hg.ne 29 60 (.row 26 1 ((w :: l).map (cS cI))) (.row 3 1 ((n :: cs).map cI)) g (by simp [cS, dSl]) (by simp [cI]) h h'
          omega
        clear hg
        have hp1 : hpLL (l.map (cS cI)) = false := hpLL_map (fun a => by simp) _
        have hp2 : hpLL (cs.map cI) = false := hpLL_map (fun a => by simp) _
        have a1 : 1 + l.length = l.length + 1 := Nat.add_comm _ _
        have a2 : 1 + cs.length = cs.length + 1 := Nat.add_comm _ _
        simp [hp1, hp2, a1, a2, List.take_of_length_le]
        refine ⟨⟨ar, ⟨γ 29, some (26, 1), w :: l⟩, ⟨γ 60, some (3, 1), n :: cs⟩⟩, by simp [cS, dSl, cI], ?_, ⟨trivial, ⟨by simp only [maxLen, List.length_cons]; omega, fun r hr => by
          rcases List.mem_cons.1 hr with h | h
          · subst h; exact kw
          · exact hc.2.1.2 r h⟩, ⟨by simp only [maxLen, List.length_cons]; omega, fun _ _ => trivial⟩⟩, ?_⟩
        · have pw' : w.xs = row.xs := by simpa [plS, map_plI] using pw
          simp only [plCnt, insR, insC, hb1, ← hkk, Bool.false_eq_true, if_false, PCnt.mk.injEq]
          refine ⟨rfl, ?_, ?_⟩
          · rw [hL]; simp [plS, map_plI, pw']
          · simp [plS, map_plI]
        · intro B' hB' G hlt
          have := tally_good (k := 0) (T1 := (26, 1)) (T2 := (3, 1)) (cs' := n :: cs) hB' G hlt (by omega) Gw (fun g h => (q1 g h).1) r1 (q2 (by simp)) (fun g h => (q3 g h).1) r2 (q4 (by simp)) r3
          exact this
      | some zg =>
        have hzlo : n2 ≤ zg := Gz.lo zg (by rw [idsL_cS]; exact mem_sl_ids.2 (.inl rfl))
        have hcB : ∀ g ∈ idsL (cCnt ⟨ar, ⟨rid, rT, l⟩, ⟨cid, cT, cs⟩⟩), g < B := fun g hg => hB g (.inr (by rw [Option.getD_some, idsVL_map_d]; exact hg))
        have hlB : ∀ g ∈ (dSl (cS cI) ⟨rid, rT, l⟩).ids, g < B := fun g hg => hcB g (by rw [cCnt, idsL_app, idsL_app, idsL_cS, idsL_cS]; simp [hg])
        have hkB : ∀ g ∈ (dSl cI ⟨cid, cT, cs⟩).ids, g < B := fun g hg => hcB g (by rw [cCnt, idsL_app, idsL_app, idsL_cS, idsL_cS]; simp [hg])
        have kg : ∀ i, i < n2 → kphi (some zg) i = none := fun i hi => by simp only [kphi]; rw [if_neg (by simp; omega)]
        have eC : reV (kphi (some zg)) (.d (.sl cid cT (cs.map cI))) = .d (.sl cid cT (cs.map cI)) := reV_id (.d (dSl cI ⟨cid, cT, cs⟩)) fun g hg => kg g (by have := hkB g hg; omega)
        have eD : ∀ xs : List Int, reV (kphi (some zg)) (.d (.sl cid T0 (xs.map cI))) = .d (.sl cid T0 (xs.map cI)) := fun xs => reV_id (.d (dSl cI ⟨cid, T0, xs⟩)) fun g hg => kg g (by
          have := hkB g (by
            rcases mem_sl_ids.1 hg with h | h
            · exact mem_sl_ids.2 (.inl h)
            · simp at h)
          omega)
        have eR : reLL (kphi (some zg)) ((l.take k).map (cS cI) ++ [D.sl w.id w.T (w.xs.map cI)] :: (l.drop k).map (cS cI)) = some ((l.take k).map (cS cI) ++ [D.sl w.id w.T (w.xs.map cI)] :: (l.drop k).map (cS cI)) := by
          have e : (l.take k).map (cS cI) ++ [D.sl w.id w.T (w.xs.map cI)] :: (l.drop k).map (cS cI) = (l.take k ++ w :: l.drop k).map (cS cI) := by simp [cS, dSl]
          rw [e]
          refine reLL_id _ (ht := tkLL_map _ (by simp)) fun g hg => kg g ?_
          rw [List.map_append, idsLL_append, List.map_cons] at hg
          simp only [idsLL, List.mem_append] at hg
          rcases hg with h | h | h
          · have := hlB g (mem_sl_ids.2 (.inr ((ids_sub (List.take_sublist k l)).subset h))); omega
          · have := hr1 g (by rw [idsL_cS] at h; exact h); omega
          · have := hlB g (mem_sl_ids.2 (.inr ((ids_sub (List.drop_sublist k l)).subset h))); omega
        have f3 : LenOk 8 (zx.length + 1) := ⟨by rw [hzx]; simp; omega, by rw [hzx]; simp only [maxLen, List.length_take]; omega⟩
        have f4 : LenOk 8 (zx.length + 1 + (cs.length - k)) := ⟨by rw [hzx]; simp; omega, by rw [hzx]; simp only [maxLen, List.length_take]; omega⟩
        have hzB : B ≤ zg := by omega
        simp [cI, dSl, hkc, hmc, f1, f2, f3, f4, hzB, St.kill, eC, eD, eR, ← List.map_take, ← List.map_drop, List.take_of_length_le, s73_3, s73_4, ]
        rw [hzx]
        refine ⟨by simp [idsLL, idsL, D.ids], ?_⟩
        simp [vendX]
        refine ⟨[54], fun γ hs' h1 hg => ?_⟩
        obtain ⟨q1, q2⟩ := gam_at hg (k := 29) (T := 26) (sz := 1) (es := (l.take k ++ w :: l.drop k).map (cS cI)) (by simp [cS, dSl])
        obtain ⟨q3, q4⟩ := gam_at hg (k := 60) (T := 3) (sz := 1) (es := (cs.take k ++ n :: cs.drop k).map cI) (by simp [cI])
        have r1 := gam_row hg (k := 29) (T := 26) (sz := 1) (es := (l.take k ++ w :: l.drop k).map (cS cI)) (by simp [cS, dSl])
        have r2 := gam_row2 hg (k := 60) (T := 3) (sz := 1) (es := (cs.take k ++ n :: cs.drop k).map cI) (k2 := 29) (T2 := 26) (sz2 := 1) (es2 := (l.take k ++ w :: l.drop k).map (cS cI)) (by simp [cI]) (by simp [cS, dSl])
        have r3 : ∀ g, γ 29 = some g → γ 60 = some g → False := fun g h h' => by
          have := hg.ne 29 60 (.row 26 1 ((l.take k ++ w :: l.drop k).map (cS cI))) (.row 3 1 ((cs.take k ++ n :: cs.drop k).map cI)) g (by simp [cS, dSl]) (by simp [cI]) h h'
          omega
        clear hg
        have hp1 : ∀ l : List Ints, hpLL (l.map (cS cI)) = false := fun l => hpLL_map (fun a => by simp) _
        have hp2 : ∀ l : List Int, hpLL (l.map cI) = false := fun l => hpLL_map (fun a => by simp) _
        have a1 : k + 1 + (l.length - k) = k + (l.length - k + 1) := by omega
        have a2 : k + 1 + (cs.length - k) = k + (cs.length - k + 1) := by omega
        have p1 : hpLL (List.take k (List.map (cS cI) l)) = false := by rw [← List.map_take]; exact hp1 _
        have p2 : hpLL (List.drop k (List.map (cS cI) l)) = false := by rw [← List.map_drop]; exact hp1 _
        have p3 : hpLL (List.take k (List.map cI cs)) = false := by rw [← List.map_take]; exact hp2 _
        have p4 : hpLL (List.drop k (List.map cI cs)) = false := by rw [← List.map_drop]; exact hp2 _
        simp [p1, p2, p3, p4, hmn, hmc, a1, a2, List.take_of_length_le]
        refine ⟨⟨ar, ⟨γ 29, some (26, 1), l.take k ++ w :: l.drop k⟩, ⟨γ 60, some (3, 1), cs.take k ++ n :: cs.drop k⟩⟩, by simp [cS, dSl, cI], ?_, ⟨trivial, ⟨by simp only [maxLen, List.length_append, List.length_take, List.length_cons, List.length_drop]; omega, fun r hr => by
          rcases List.mem_append.1 hr with h | h
          · exact hc.2.1.2 r (List.mem_of_mem_take h)
          rcases List.mem_cons.1 h with h | h
          · subst h; exact kw
          · exact hc.2.1.2 r (List.mem_of_mem_drop h)⟩, ⟨by simp only [maxLen, List.length_append, List.length_take, List.length_cons, List.length_drop]; omega, fun _ _ => trivial⟩⟩, ?_⟩
        · have pw' : w.xs = row.xs := by simpa [plS, map_plI] using pw
          simp only [plCnt, insR, insC, hb1, ← hkk, Bool.false_eq_true, if_false, PCnt.mk.injEq]
          refine ⟨rfl, ?_, ?_⟩
          · rw [hL]; simp [plS, map_plI, pw']
          · simp [plS, map_plI]
        · intro B' hB' G hlt
          have := tally_good (k := k) (T1 := (26, 1)) (T2 := (3, 1)) (cs' := cs.take k ++ n :: cs.drop k) hB' G hlt (by omega) Gw (fun g h => (q1 g h).1) r1 (q2 (by simp)) (fun g h => (q3 g h).1) r2 (q4 (by simp)) r3
          exact this
  · obtain ⟨hk1, hkx⟩ := placeB_at hb1
    rw [← hkk] at hk1
    have hkc : k < cs.length := by omega
    obtain ⟨g, hg, T', hT⟩ := hw.1.id hkc
    simp only at hg hT
    subst hg hT
    have hvk := hv cs[k] (List.getElem_mem hkc)
    have hw1 : IntKind.i64.wrap (cs[k] + n) = cs[k] + n := wrap64_of (by omega) (by omega)
    simp [hkc, hw1, cI, s73_3, s73_4, ]
    have e2 := re_oneSet (g := g) (T := T') (es := List.map cI cs) (i := k) (e' := [D.int IntKind.i64 (cs[k] + n)]) (fun e he => by
      rw [List.getElem?_map] at he
      simp [hkc] at he
      rw [← he]; rfl)
    have e3 : reV (one g (.sl (some g) (some T') ((List.map cI cs).set k [D.int IntKind.i64 (cs[k] + n)]))) (.d (.sl rid rT (l.map (cS cI)))) = .d (.sl rid rT (l.map (cS cI))) := reV_id (.d (dSl (cS cI) ⟨rid, rT, l⟩)) (fun g' hg' => by
      simp only [one]
      split
      · rename_i h; subst h; exact absurd hg' (hnd2 _ rfl)
      · rfl)
    simp [e2, e3, vendX]
    refine ⟨[21], fun γ hs' h1 h2 => ?_⟩
    simp
    refine ⟨⟨ar, ⟨rid, rT, l⟩, ⟨some g, some T', cs.set k (cs[k] + n)⟩⟩, by simp [List.map_set, cI], ?_, ⟨trivial, hc.2.1, ⟨by have := hc.2.2.1; simpa using this, fun _ _ => trivial⟩⟩, ?_⟩
    · simp only [plCnt, insR, insC, hb1, if_true, ← hkk, getD_el _ hkc, hpl]
      simp [plS, map_plI, plI]
    · intro B' hB' G hlt
      have e : idsL (cCnt ⟨ar, ⟨rid, rT, l⟩, ⟨some g, some T', cs.set k (cs[k] + n)⟩⟩) = idsL (cCnt ⟨ar, ⟨rid, rT, l⟩, ⟨some g, some T', cs⟩⟩) := by
        have hi : ∀ xs : List Int, (dSl cI ⟨some g, some T', xs⟩).ids = [g] := fun xs => by simp [dSl, D.ids]
        simp only [cCnt, idsL_app, idsL_cS, hi]
      have G : Good (cCnt ⟨ar, ⟨rid, rT, l⟩, ⟨some g, some T', cs⟩⟩) (whCnt ⟨ar, ⟨rid, rT, l⟩, ⟨some g, some T', cs⟩⟩) B' := G
      have : Good (cCnt ⟨ar, ⟨rid, rT, l⟩, ⟨some g, some T', cs.set k (cs[k] + n)⟩⟩) (whCnt ⟨ar, ⟨rid, rT, l⟩, ⟨some g, some T', cs.set k (cs[k] + n)⟩⟩) B' :=
        ⟨e ▸ G.nd, e ▸ G.lo, ⟨trivial, G.wh.2.1, ⟨hw.1.of (by simp), fun _ _ => trivial⟩⟩⟩
      exact this

end Go.Proofs.Ytohbmjknaeenjaa

namespace Go.Proofs.Ytohbmjknaeenjaa
open Go.Vs Go.Proofs Go
set_option maxRecDepth 100000
set_option maxHeartbeats 1000000


end Go.Proofs.Ytohbmjknaeenjaa

namespace Go.Proofs.Ytohbmjknaeenjaa
open Go.Vs Go.Proofs Go
set_option maxRecDepth 100000
set_option maxHeartbeats 1000000

theorem w_impl_columnsFit (ar : Int) (cols : List Int) : VC Try.prog 72 [.d (.int .i64 ar), .d (pS cI cols)] (fun _ v => v = .d (.bool (colsOk ar cols))) := by
  refine VC.ofL EP s72 (by kernel_rfl) Try.func72 (by rfl) (by kernel_rfl) (by simp [Try.f72]) (by simp [Try.f72]) s72_ok fun B hl => ?_
  by_cases h5 : cols.length ≤ 5
  case neg => simp [Try.f72, colsOk, h5, show (5 : Int) < cols.length by omega]
  simp [Try.f72, show ¬ (5 : Int) < cols.length by omega]
  refine loop_rule (X := Nat) (fun i => i ≤ cols.length ∧ AllTo (fun c => inR c 0 (IntKind.i64.wrap (ar - 1))) cols i) (fun i => [(0, .d (.int .i64 ar)), (10, .d (.pl (cols.map cI))), (11, .d (.int .i64 cols.length)), (12, .d (.int .i64 i))])
    (fun _ => []) (fun i => cols.length - i) 0 ⟨by simp, allTo_zero⟩ (by simp) (by simp) ?_
  intro i hs t m hi hh
  by_cases hlt : i < cols.length
  · have hwi := wr1 (i := i) (by omega)
    simp [hlt, cI, ]
    refine call_f (w_impl_within cols[i] 0 (IntKind.i64.wrap (ar - 1))) (by simp) rfl fun hs1 hh1 => ?_
    simp at hh1
    cases hv : inR cols[i] 0 (IntKind.i64.wrap (ar - 1))
    · have hbad := all_bad (p := fun c => inR c 0 (IntKind.i64.wrap (ar - 1))) hlt hv
      simp [colsOk, hbad]
    · simp [hwi]
      exact back (i + 1) ⟨by omega, allTo_step hi.2 hlt hv⟩ (by omega) rfl (by simp <;> omega) (by simp) (by simp)
  have hd := allTo_done hi.2 (by omega)
  simp [hlt, colsOk, hd, h5]
theorem t_impl_pick (row cols : Ints) (hb : cols.xs.length ≤ 4294967296) (hc : ∀ c ∈ cols.xs, 0 ≤ c ∧ c < row.xs.length) : VC Try.prog 74 [.d (dSl cI row), .d (dSl cI cols)]
   (fun n r => ∃ y : Ints, r = .d (dSl cI y) ∧ y.xs = pickR cols.xs row.xs ∧ okS okI y ∧ Good (cS cI y) (whS whI y) n) := by
  refine VC.of E s74 (by kernel_rfl) Try.func74 (by rfl) (by kernel_rfl) (by simp [Try.f74]) (by simp [Try.f74]) s74_ok fun B => ?_
  simp [Try.f74, dSl]
  refine loop_rule (X := Nat) (fun i => i ≤ cols.xs.length) (fun i => [(0, .d (.sl row.id row.T (row.xs.map cI))), (5, .own 8 0 i), (9, .d (.sl cols.id cols.T (cols.xs.map cI))), (10, .d (.int .i64 cols.xs.length)), (11, .d (.int .i64 i))])
    (fun i => [(8, some (.row 3 1 ((pickR (cols.xs.take i) row.xs).map cI)))]) (fun i => cols.xs.length - i) 0 (by simp) (by simp) (by simp [pickR]) ?_
  intro i hs t m hi hh
  by_cases hlt : i < cols.xs.length
  · have hwi := wr1 (i := i) (by omega)
    have h1 := hc _ (List.getElem_mem hlt)
    have hst := pickR_step hlt hc
    obtain ⟨k, hk⟩ : ∃ k : Nat, cols.xs[i] = (k : Int) := ⟨cols.xs[i].toNat, by omega⟩
    have hkl : k < row.xs.length := by omega
    have hL : LenOk 8 (i + 1) := ⟨by omega, by simp only [maxLen]; omega⟩
    have hpl : (pickR (cols.xs.take i) row.xs).length = i := by rw [pickR_len, List.length_take]; omega
    simp only [hk, Int.toNat_natCast] at hst
    simp [hlt, hk, hkl, hL, hwi, hpl, cI, ]
    exact back (i + 1) (by omega) (by omega) rfl (by simp <;> omega) (by simp) (by simp [hst, cI])
  · have hn : i = cols.xs.length := by omega
    subst hn
    simp [List.take_of_length_le, pickR_len]
    intro γ hs' h2 hg
    obtain ⟨q1, q2⟩ := gam_at hg (k := 8) (T := 3) (sz := 1) (es := (pickR cols.xs row.xs).map cI) (by simp)
    have r1 := gam_row hg (k := 8) (T := 3) (sz := 1) (es := (pickR cols.xs row.xs).map cI) (by simp)
    clear hg
    refine ⟨⟨γ 8, some (3, 1), pickR cols.xs row.xs⟩, by simp [List.take_of_length_le, pickR_len], rfl, ⟨by simp only [maxLen, pickR_len]; omega, fun _ _ => trivial⟩, good_row (fun g hg => (q1 g hg).1) (by simpa using q2) r1 ⟨by simp, by simp⟩ (by simp [whI])⟩

end Go.Proofs.Ytohbmjknaeenjaa

namespace Go.Proofs.Ytohbmjknaeenjaa
open Go.Vs Go.Proofs Go
set_option maxRecDepth 100000
set_option maxHeartbeats 1000000

theorem t_impl_ProjectCounted0 (a : Cnt) (c : Ints) (ha : okCnt a) (hc : okS okI c) : VC Try.prog 41 [.agg ((cCnt a).map V.d), .d (dSl cI c)]
   (fun n r => ∃ y : Cnt, r = .tup [.agg ((cCnt y).map V.d), .d (.bool (projB (plCnt a) c.xs))] ∧ plCnt y = projP (plCnt a) c.xs ∧ okCnt y ∧ Good (cCnt y) (whCnt y) n) := by
  refine VC.ofB E s41 (by kernel_rfl) Try.func41 (by rfl) (by kernel_rfl) (by simp [Try.f41]) (by simp [Try.f41]) s41_ok fun B hB => ?_
  have haB : ∀ g ∈ idsL (cCnt a), g < B := fun g hg => hB g (by simp only [idsVL, V.ids, idsVL_map_d, List.mem_append]; simp [hg])
  have hcB : ∀ g ∈ (dSl cI c).ids, g < B := fun g hg => hB g (by simp only [idsVL, V.ids, List.mem_append]; simp [hg])
  have hno : ∀ hB0 : projB (plCnt a) c.xs = false, ∃ y : Cnt, V.tup [.agg ((cCnt ⟨0, nilS, nilS⟩).map V.d), .d (.bool false)] = .tup [.agg ((cCnt y).map V.d), .d (.bool (projB (plCnt a) c.xs))] ∧ plCnt y = projP (plCnt a) c.xs ∧ okCnt y ∧ Good (cCnt y) (whCnt y) B := fun hB0 =>
    ⟨⟨0, nilS, nilS⟩, by rw [hB0], by simp only [projP, hB0]; rfl, ⟨trivial, ok_nilS, ok_nilS⟩, good_Cnt0 B⟩
  simp only [cCnt, cS, cI, nilS, dSl] at hno
  simp at hno
  simp [Try.f41, s41_7, cCnt, cS, cI, dSl]
  refine call_f (w_impl_IsValidCounted (plCnt a)) (by simp [eCnt, er_SI, er_I, plCnt, pS, plS, erLL_map er_cI, erLL_map (er_cS er_cI), map_plI]) rfl fun hs0 hh0 => ?_
  simp at hh0
  cases h1 : cntsOk (plCnt a)
  · have hB0 : projB (plCnt a) c.xs = false := by simp [projB, h1]
    simp
    exact hno hB0
  simp [dSl]
  refine call_f (w_impl_columnsFit a.ar c.xs) (by simp [erLL_map er_cI, pS]) rfl fun hs1 hh1 => ?_
  simp at hh1
  cases h2 : colsOk a.ar c.xs
  · have hB0 : projB (plCnt a) c.xs = false := by simp [projB, plCnt, plI, h2]
    simp
    exact hno hB0
  have hlen := rowsOk_len (cntsOk_rows h1)
  have hrow := rowsOk_row (cntsOk_rows h1)
  have hcl := cntsOk_len h1
  have hcsa := cntsOk_cs h1
  have har := rowsOk_inR (cntsOk_rows h1)
  have h2' := h2
  simp only [colsOk, Bool.and_eq_true, decide_eq_true_eq] at h2'
  obtain ⟨hc5, hd⟩ := h2'
  simp only [inR, Bool.and_eq_true, decide_eq_true_eq] at har
  have hrl : (plCnt a).rows.length = a.rows.xs.length := by simp [plCnt, plS]
  have hcs : (plCnt a).cs = a.cs.xs := by simp [plCnt, plS, map_plI]
  have hcl2 : a.cs.xs.length = a.rows.xs.length := by rw [← hrl, ← hcs]; omega
  have hfit : ∀ r ∈ a.rows.xs, ∀ x ∈ c.xs, 0 ≤ x ∧ x < r.xs.length := fun r hrm x hx => by
    have h2 := (rowsOk_mem (cntsOk_rows h1) (List.mem_map_of_mem (f := plS plI) hrm)).1
    have h3 := (List.all_eq_true.1 hd) x hx
    have har' : 0 ≤ a.ar ∧ a.ar ≤ 5 := har
    rw [wrap64_of (by omega) (by omega)] at h3
    simp only [inR, Bool.and_eq_true, decide_eq_true_eq] at h3
    simp only [plS, List.length_map, plCnt, plI] at h2
    omega
  obtain ⟨b, hb⟩ : ∃ b : PCnt, b = ⟨c.xs.length, (plCnt a).rows.map (pickR c.xs), (plCnt a).cs⟩ := ⟨_, rfl⟩
  have hbl : b.rows.length = a.rows.xs.length := by rw [hb]; simp [plCnt, plS]
  have hbc : b.cs = a.cs.xs := by rw [hb]; exact hcs
  have hba : ∀ i (h : i < a.rows.xs.length), b.rows[i]'(by omega) = pickR c.xs a.rows.xs[i].xs := fun i h => by
    subst hb
    simp [plCnt, plS, map_plI]
  simp [s41_7, dSl]
  refine loop_ruleL (X := Nat × Cnt) (TalI ⟨c.xs.length, [], []⟩ b B) (fun p => [(1, .d (.sl c.id c.T (c.xs.map cI))), (2, .ptr 2 0 0), (4, .ptr 4 0 0), (6, .ptr 6 0 0), (25, .d (.sl a.rows.id a.rows.T (a.rows.xs.map (cS cI)))), (26, .d (.int .i64 a.rows.xs.length)), (27, .d (.int .i64 p.1))])
    (fun p => [(2, some (.box [.d (.int .i64 a.ar), .d (.sl a.rows.id a.rows.T (a.rows.xs.map (cS cI))), .d (.sl a.cs.id a.cs.T (a.cs.xs.map cI))])), (4, some (.box [.d (.int .i64 0), .d (.sl none none []), .d (.sl none none [])])),
      (6, some (.box [.d (.int .i64 p.2.ar), .d (.sl p.2.rows.id p.2.rows.T (p.2.rows.xs.map (cS cI))), .d (.sl p.2.cs.id p.2.cs.T (p.2.cs.xs.map cI))]))]) (fun p => a.rows.xs.length - p.1) ?_ ?_
  · refine Lead.of ⟨(0, ⟨c.xs.length, nilS, nilS⟩), ⟨by simp, rfl, rfl, rfl, ⟨trivial, ok_nilS, ok_nilS⟩, ⟨by simp [cCnt, nilS, cS, cI, dSl, idsL, idsLL, D.ids], by simp [cCnt, nilS, cS, cI, dSl, idsL, idsLL, D.ids], (good_Cnt0 B).wh⟩, by simp [cCnt, nilS, cS, cI, dSl, idsL, idsLL, D.ids]⟩, rfl, rfl, Nat.le_refl _, by simp [dSl], by simp [nilS, dSl]⟩
  rintro ⟨i, y⟩ hs t m hI hh
  have hi := hI.le
  simp only [hbl] at hi
  obtain ⟨b1, b2, b3⟩ := hI.bd .nil rfl (by rw [hbc, hbl]; omega) (by simp) (by rw [hbl]; omega) (by simp) (by rw [hbc]; exact hcs ▸ hcsa)
  simp only at b1 b2 b3
  by_cases hlt : i < a.rows.xs.length
  · have hltc : i < a.cs.xs.length := by omega
    have hwi := wr1 (i := i) (by omega)
    have hbr : ∀ g ∈ (dSl (cS cI) a.rows).ids, g < B := fun g hg => haB g (by rw [cCnt, idsL_app, idsL_app, idsL_cS, idsL_cS]; simp [hg])
    have hbk : ∀ g ∈ (dSl cI a.cs).ids, g < B := fun g hg => haB g (by rw [cCnt, idsL_app, idsL_app, idsL_cS, idsL_cS]; simp [hg])
    have hyc : ∀ g ∈ (dSl cI y.cs).ids, B ≤ g := fun g hg => hI.good.lo g (by rw [cCnt, idsL_app, idsL_app, idsL_cS, idsL_cS]; simp [hg])
    have hcb := hcsa a.cs.xs[i] (by rw [hcs]; exact List.getElem_mem hltc)
    obtain ⟨W, hW⟩ : ∃ W, W = (dSl cI y.cs).ids := ⟨_, rfl⟩
    rw [← hW] at hyc
    have eW : ∀ (ws : List D) g, g < B → phi W ws g = none := fun ws g hg => by
      simp only [phi]; rw [if_neg]; intro h; have := hyc g h; omega
    have e1 : ∀ ws, reV (phi W ws) (.d (.sl a.rows.id a.rows.T (a.rows.xs.map (cS cI)))) = .d (.sl a.rows.id a.rows.T (a.rows.xs.map (cS cI))) := fun ws => reV_id (.d (dSl (cS cI) a.rows)) fun g hg => eW ws g (hbr g hg)
    have e2 : ∀ ws, reV (phi W ws) (.d (.sl a.cs.id a.cs.T (a.cs.xs.map cI))) = .d (.sl a.cs.id a.cs.T (a.cs.xs.map cI)) := fun ws => reV_id (.d (dSl cI a.cs)) fun g hg => eW ws g (hbk g hg)
    have e3 : ∀ ws, reV (phi W ws) (.d (.sl c.id c.T (c.xs.map cI))) = .d (.sl c.id c.T (c.xs.map cI)) := fun ws => reV_id (.d (dSl cI c)) fun g hg => eW ws g (hcB g hg)
    refine anyQ2 fun Q => ?_
    simp [hlt, hltc, cS, cI, dSl, s41_7, ]
    refine call_some (t_impl_pick a.rows.xs[i] c (by omega) (hfit _ (List.getElem_mem hlt))) (by simp [dSl]) (by simp) fun n2 hs2 r2 hn2 hm2 hp2 hr2 => ?_
    obtain ⟨w, rfl, pw, kw, Gw⟩ := hp2
    simp at hn2
    have hT := t_impl_tally y w a.cs.xs[i] hI.ok kw hI.good.wh.2.2 hI.good.nd (by omega) b2 (by
      rw [pw, pickR_len]; omega) hcb b3
    rw [← hW] at hT
    simp [hlt, hltc, cS, cI, dSl, s41_7, ]
    refine call_b (k := 6) (E73) (by simp [dSl]) (by simp [cCnt, cS, cI, dSl]) (by simp) (by simp [cCnt, cS, cI, dSl]) (by simp) (by simp [cCnt, cS, cI, dSl]) (fun g hg => .inl (hyc g hg)) hT fun n3 hs3 r3 cs3 ws3 hn3 hm3 hp3 hr3 hv3 hw3 => ?_
    obtain ⟨rfl, z, rfl, pz, kz, _, Gz⟩ := hp3
    simp at hn3
    have u3 : ∀ g ∈ idsL (cCnt z), g < hs3 := fun g hg => hv3 g (by rw [idsVL_map_d]; exact hg)
    simp [cCnt, cS, cI, dSl, hwi, e1, e2, e3, s41_7, ]
    refine back2 (i + 1, z) (hI.step (m := n3) (by rw [hbc, hbl]; omega) (by omega) (by rw [hbc]; omega) ?_ kz (by omega) (by omega) Gz u3) (by simp only; omega) rfl (by simp <;> omega) (by simp [e1, e3]) (by simp [e1, e2])
    rw [pz, hba i hlt, pw]
    simp [hbc]
  · obtain ⟨f1, f2⟩ := hI.fin (by omega) .nil rfl (by rw [hbc, hbl]; omega)
    have har : y.ar = (c.xs.length : Int) := hI.ar
    have Gr : Good (cS (cS cI) y.rows) (whS (whS whI) y.rows) B := by
      have h1 := hI.good.nd
      rw [cCnt, idsL_app, idsL_app] at h1
      exact ⟨(List.nodup_append.1 (List.nodup_append.1 h1).1).2.1, fun g hg => hI.good.lo g (by rw [cCnt, idsL_app, idsL_app]; simp [hg]), hI.good.wh.2.1⟩
    simp [hlt, cS, cI, dSl, s41_7, ]
    refine call_some (t_impl_settled y hI.ok (by omega) b2) (by simp [cCnt, cS, cI, dSl]) (by simp) fun n4 hs4 r4 hn4 hm4 hp4 hr4 => ?_
    obtain ⟨z, rfl, pz, kz, Gz⟩ := hp4
    simp at hn4
    clear hr4
    have pz' : plCnt z = sumOf c.xs.length b.rows b.cs := by
      rw [pz, f1, f2, sumOf, har]; rfl
    have hsl : (srtU b.rows).length ≤ 4000 := by have := srtU_len b.rows; omega
    have hprj : projB (plCnt a) c.xs = cntsOk (plCnt z) := by
      have h2' : colsOk (plCnt a).ar c.xs = true := h2
      rw [pz', projB, h1, h2', sumB]
      rw [hb] at hsl ⊢
      simp only [Bool.true_and, hsl, decide_true]
    simp [cCnt, cS, cI, dSl, s41_7, ]
    refine call_f (w_impl_IsValidCounted (plCnt z)) (by simp [eCnt, er_SI, er_I, plCnt, pS, plS, erLL_map er_cI, erLL_map (er_cS er_cI), map_plI]) rfl fun hs5 hh5 => ?_
    simp at hh5
    cases h5 : cntsOk (plCnt z)
    · have hB0 : projB (plCnt a) c.xs = false := by rw [hprj, h5]
      simp
      exact hno hB0
    have hB1 : projB (plCnt a) c.xs = true := by rw [hprj, h5]
    simp
    refine ⟨z, by simp [cCnt, cS, cI, dSl, hB1], by rw [pz', projP, hB1, hb]; rfl, kz, Gz B (by omega) Gr⟩
theorem t_impl_ProjectCounted (a : Cnt) (c : Ints) (ha : okCnt a) (hc : okS okI c) : VC Try.prog 41 [.agg ((cCnt a).map V.d), .d (dSl cI c)]
   (fun n r => ∃ y : Cnt, r = .tup [.agg ((cCnt y).map V.d), .d (.bool (projB (plCnt a) (plS plI c)))] ∧ plCnt y = projP (plCnt a) (plS plI c) ∧ okCnt y ∧ Good (cCnt y) (whCnt y) n) := by
  have e : plS plI c = c.xs := by simp [plS, map_plI]
  rw [e]; exact t_impl_ProjectCounted0 a c ha hc

end Go.Proofs.Ytohbmjknaeenjaa

namespace Go.Proofs.Ytohbmjknaeenjaa
open Go.Vs Go.Proofs Go
set_option maxRecDepth 100000
set_option maxHeartbeats 1000000

theorem w_spec_l27Sum (ar : Int) (l : List (List Int)) (cs : List Int) (hr : inR ar 0 5 = true) (hm : ∀ x ∈ l, (x.length : Int) = ar ∧ valsOk x = true) (hlc : cs.length = l.length) (hb : l.length ≤ 100000) (hc : ∀ c ∈ cs, -1000000 ≤ c ∧ c ≤ 1000000) :
   VC Try.prog 61 [.d (.int .i64 ar), .d (pS (cP cI) l), .d (pS cI cs)] (fun _ v => v = .tup [.agg ((eCnt (sumP ar l cs)).map .d), .d (.bool (sumB ar l cs))]) := by
  have hx5 : ∀ x ∈ l, x.length ≤ 5 := fun x hx => by
    have h1 := (hm x hx).1
    simp only [inR, Bool.and_eq_true, decide_eq_true_eq] at hr
    omega
  have hnB := newB_of hr hm
  have hRs := srtU_srt l
  have hRl := srtU_len l
  refine VC.ofL EP s61 (by kernel_rfl) Try.func61 (by rfl) (by kernel_rfl) (by simp [Try.f61]) (by simp [Try.f61]) s61_ok fun B hl => ?_
  simp [Try.f61, s61_8, s61_9, s61_15, s61_16, s61_8, s61_9, s61_15, s61_16, ]
  refine call_p (w_spec_NewRelation ar l (by omega) (fun x hx => by have := hx5 x hx; omega)) (by simp) fun hs1 hh1 _ => ?_
  simp at hh1
  by_cases h4 : (srtU l).length ≤ 4000
  case neg => simp [newR, hnB, h4, sumP, sumB, eReln, eCnt]
  have hmR : ∀ x, x ∈ l → x ∈ srtU l := fun x hx => (srtU_mem l x).2 hx
  have hRe : newR ar l = ⟨ar, srtU l⟩ := by simp [newR, hnB, h4]
  have hsum : sumsOf l cs = (srtU l).map (lkC l cs) := rfl
  simp [hRe, hnB, h4, eReln]
  obtain ⟨R, hRR⟩ : ∃ R, R = srtU l := ⟨_, rfl⟩
  simp only [← hRR] at hRs hRl h4 hmR hsum ⊢
  have hL0 : LenOk 8 R.length := ⟨by omega, by simp only [maxLen]; omega⟩
  simp [hL0]
  refine loop_rule (X := Nat) (fun i => i ≤ l.length) (fun i => [(0, .d (.int .i64 ar)), (1, .d (.pl (l.map (cP cI)))), (2, .d (.pl (cs.map cI))), (6, .ptr 6 0 0), (8, .ptr 8 0 0), (10, .own 28 0 R.length), (11, .d (.int .i64 i))])
    (fun i => [(6, some (.box [.d (.int .i64 0), .d (.sl none none []), .d (.sl none none [])])), (8, some (.box [.d (.int .i64 ar), .d (.pl (R.map (cP cI)))])), (28, some (.row 3 1 ((sumsTo R l cs i).map cI)))]) (fun i => l.length - i) 0 (by simp) (by simp) (by simp [sumsTo_zero]) ?_
  · intro i hs t m hi hh
    by_cases hlt : i < l.length
    · have hwi := wr1 (i := i) (by omega)
      have hic : i < cs.length := by omega
      obtain ⟨hk, hkx⟩ := placeB_at ((placeB_iff hRs).2 (hmR _ (List.getElem_mem hlt)))
      simp [hlt, cP, s61_8, s61_9, s61_15, s61_16, ]
      refine call_f (w_spec_l5Place ⟨ar, R⟩ l[i] (by simp; omega)) (by simp [eReln]) rfl fun hs1 hh1 => ?_
      simp at hh1
      obtain ⟨k, hkk⟩ : ∃ k, k = placeK R l[i] := ⟨_, rfl⟩
      simp only [← hkk] at hk ⊢
      have hst := sumsTo_step (cs := cs) hRs hlt hic (hmR _ (List.getElem_mem hlt)) hkk hk
      have hbd := sumsTo_bd (l := l) (cs := cs) (i := i) hk hi hc
      have hbc := hc cs[i] (List.getElem_mem hic)
      have hw : IntKind.i64.wrap ((sumsTo R l cs i)[k]'(by simpa using hk) + cs[i]) = (sumsTo R l cs i)[k]'(by simpa using hk) + cs[i] := wrap64_of (by omega) (by omega)
      simp [hk, hic, hw, hwi, s61_8, s61_9, s61_15, s61_16, ]
      exact back (i + 1) (by omega) (by omega) rfl (by simp <;> omega) (by simp) (by simp [← hst, List.map_set, cI])
    · have hn : i = l.length := by omega
      subst hn
      have hall : sumsTo R l cs l.length = sumsOf l cs := hRR ▸ sumsTo_all hlc
      obtain ⟨S, hS⟩ : ∃ S, S = sumsOf l cs := ⟨_, rfl⟩
      have hSl : S.length = R.length := by rw [hS, ← hall, sumsTo_length]
      rw [hall, ← hS]
      simp [s61_8, s61_9, s61_15, s61_16, ]
      refine loop_ruleL (X := Nat) (fun i _ => i ≤ R.length) (fun i => [(6, .ptr 6 0 0), (8, .ptr 8 0 0), (10, .own 28 0 R.length), (14, .ptr 14 0 0), (15, .d (.int .i64 i))])
        (fun i => [(6, some (.box [.d (.int .i64 0), .d (.sl none none []), .d (.sl none none [])])), (8, some (.box [.d (.int .i64 ar), .d (.pl (R.map (cP cI)))])), (14, some (.box [.d (.int .i64 ar), .own 78 0 (sttl (R.take i) (S.take i)).length, .own 87 0 (sttl (R.take i) (S.take i)).length])),
          (28, some (.row 3 1 (S.map cI))), (78, some (.row 26 1 (((sttl (R.take i) (S.take i)).map Prod.fst).map (cP cI)))), (87, some (.row 3 1 (((sttl (R.take i) (S.take i)).map Prod.snd).map cI)))]) (fun i => R.length - i) ?_ ?_
      · refine (lead_box 14 1 78 26 1 [.d (.int .i64 ar), .d (.sl none none []), .d (.sl none none [])] (by omega) (by omega) (by omega) (by simp) rfl).bind ?_
        rintro _ rfl
        refine (lead_box 14 2 87 3 1 [.d (.int .i64 ar), .own 78 0 0, .d (.sl none none [])] (by omega) (by omega) (by omega) (by simp) rfl).bind ?_
        rintro _ rfl
        exact Lead.of ⟨0, by simp, rfl, rfl, Nat.le_refl _, by simp, by simp [sttl]⟩
      · intro i hs2 t2 m2 hi2 hh2
        by_cases hlt2 : i < R.length
        · have hwi := wr1 (i := i) (by omega)
          have hiS : i < S.length := by omega
          have hss := settle_step (rs := R) (cs := S) hlt2 hiS
          have hsl : (sttl (R.take i) (S.take i)).length ≤ i := settle_len hi2
          refine anyQ2 fun Q => ?_
          by_cases h0 : S[i] = 0
          · rw [if_pos h0, List.append_nil] at hss
            simp [hlt2, hiS, h0, hwi, show R.length ≤ S.length by omega, s61_8, s61_9, s61_15, s61_16, ]
            exact back2 (i + 1) (by omega) (by omega) rfl (by simp <;> omega) (by simp [hss]) (by simp [hss])
          · rw [if_neg h0] at hss
            have hLa : LenOk 24 ((sttl (R.take i) (S.take i)).length + 1) := ⟨by omega, by simp only [maxLen]; omega⟩
            have hLb : LenOk 8 ((sttl (R.take i) (S.take i)).length + 1) := ⟨by omega, by simp only [maxLen]; omega⟩
            simp [hlt2, hiS, h0, hwi, hLa, hLb, show R.length ≤ S.length by omega, s61_8, s61_9, s61_15, s61_16, ]
            exact back2 (i + 1) (by omega) (by omega) rfl (by simp <;> omega) (by simp [hss]) (by simp [hss])
        · have hn : i = R.length := by omega
          subst hn
          simp [List.take_of_length_le, hSl, s61_8, s61_9, s61_15, s61_16, ]
          have hsl : (sttl R S).length ≤ R.length := by
            have := settle_len (rs := R) (cs := S) (Nat.le_refl R.length)
            rw [List.take_length, List.take_of_length_le (l := S) (by omega)] at this
            exact this
          have hso : sumOf ar l cs = ⟨ar, (sttl R S).map Prod.fst, (sttl R S).map Prod.snd⟩ := by simp only [sumOf, ← hRR, ← hS]
          refine call_f (w_spec_IsValidCounted (sumOf ar l cs)) (by simp [eCnt, hso, List.take_of_length_le]) rfl fun hs3 hh3 => ?_
          simp at hh3
          cases hv : cntsOk (sumOf ar l cs)
          · simp [sumP, sumB, hv, eCnt]
          · have hB : sumB ar l cs = true := by simp [sumB, hv, ← hRR, h4]
            simp [sumP, hB, hso, eCnt, List.take_of_length_le]

end Go.Proofs.Ytohbmjknaeenjaa

namespace Go.Proofs.Ytohbmjknaeenjaa
open Go.Vs Go.Proofs Go
set_option maxRecDepth 100000
set_option maxHeartbeats 1000000


end Go.Proofs.Ytohbmjknaeenjaa

namespace Go.Proofs.Ytohbmjknaeenjaa
open Go.Vs Go.Proofs Go
set_option maxRecDepth 100000
set_option maxHeartbeats 1000000

theorem w_spec_l5Cols (row cols : List Int) (hb : cols.length ≤ 4294967296) (hc : ∀ c ∈ cols, 0 ≤ c ∧ c < row.length) : VC Try.prog 60 [.d (pS cI row), .d (pS cI cols)] (fun _ v => v = .d (pS cI (pickR cols row))) := by
  refine VC.ofL EP s60 (by kernel_rfl) Try.func60 (by rfl) (by kernel_rfl) (by simp [Try.f60]) (by simp [Try.f60]) s60_ok fun B hl => ?_
  simp [Try.f60, ]
  refine loop_rule (X := Nat) (fun i => i ≤ cols.length) (fun i => [(0, .d (.pl (row.map cI))), (1, .d (.pl (cols.map cI))), (5, .own 7 0 i), (6, .d (.int .i64 i))])
    (fun i => [(7, some (.row 3 1 ((pickR (cols.take i) row).map cI)))]) (fun i => cols.length - i) 0 (by simp) (by simp) (by simp [pickR]) ?_
  intro i hs t m hi hh
  by_cases hlt : i < cols.length
  · have hwi := wr1 (i := i) (by omega)
    have h1 := hc _ (List.getElem_mem hlt)
    have hst := pickR_step hlt hc
    obtain ⟨k, hk⟩ : ∃ k : Nat, cols[i] = (k : Int) := ⟨cols[i].toNat, by omega⟩
    have hkl : k < row.length := by omega
    have hL : LenOk 8 (i + 1) := ⟨by omega, by simp only [maxLen]; omega⟩
    have hpl : (pickR (cols.take i) row).length = i := by rw [pickR_len, List.length_take]; omega
    simp only [hk, Int.toNat_natCast] at hst
    simp [hlt, hk, hkl, hL, hwi, hpl, cI, ]
    exact back (i + 1) (by omega) (by omega) rfl (by simp <;> omega) (by simp) (by simp [hst, cI])
  · have hn : i = cols.length := by omega
    subst hn
    simp [List.take_of_length_le, pickR_len]
theorem w_spec_ProjectCounted (z : PCnt) (cols : List Int) (hb : cols.length ≤ 4294967296) : VC Try.prog 32 [.agg ((eCnt z).map .d), .d (pS cI cols)] (fun _ v => v = .tup [.agg ((eCnt (projP z cols)).map .d), .d (.bool (projB z cols))]) := by
  refine VC.ofL EP s32 (by kernel_rfl) Try.func32 (by rfl) (by kernel_rfl) (by simp [Try.f32]) (by simp [Try.f32]) s32_ok fun B hl => ?_
  simp [Try.f32, s32_4, eCnt, s32_4, ]
  refine loop_rule (X := Nat) (fun i => i ≤ cols.length ∧ AllTo (fun c => inR c 0 (IntKind.i64.wrap (z.ar - 1))) cols i) (fun i => [(1, .d (.pl (cols.map cI))), (2, .ptr 2 0 0), (4, .ptr 4 0 0), (6, .d (.int .i64 i))])
    (fun i => [(2, some (.box [.d (.int .i64 z.ar), .d (.pl (z.rows.map (cP cI))), .d (.pl (z.cs.map cI))])), (4, some (.box [.d (.int .i64 0), .d (.sl none none []), .d (.sl none none [])]))]) (fun i => cols.length - i) 0 ⟨by simp, allTo_zero⟩ (by simp) (by simp) ?_
  intro i hs t m hi hh
  by_cases hlt : i < cols.length
  · have hwi := wr1 (i := i) (by omega)
    simp [hlt, cI, s32_4, ]
    refine call_f (w_spec_l1In cols[i] 0 (IntKind.i64.wrap (z.ar - 1))) (by simp) rfl fun hs1 hh1 => ?_
    simp at hh1
    cases hv : inR cols[i] 0 (IntKind.i64.wrap (z.ar - 1))
    · have hbad := all_bad (p := fun c => inR c 0 (IntKind.i64.wrap (z.ar - 1))) hlt hv
      simp [projP, projB, colsOk, hbad, eCnt]
    · simp [hwi]
      exact back (i + 1) ⟨by omega, allTo_step hi.2 hlt hv⟩ (by omega) rfl (by simp <;> omega) (by simp) (by simp)
  have hd := allTo_done hi.2 (by omega)
  simp [hlt, s32_4, ]
  refine call_f (w_spec_IsValidCounted z) (by simp [eCnt]) rfl fun hs1 hh1 => ?_
  simp at hh1
  cases h1 : cntsOk z
  · simp [projP, projB, h1, eCnt]
  by_cases h5 : cols.length ≤ 5
  case neg => simp [projP, projB, colsOk, h5, show (5 : Int) < cols.length by omega, eCnt]
  have hr := cntsOk_rows h1
  have hrl := rowsOk_len hr
  have hcl := cntsOk_len h1
  have hco : colsOk z.ar cols = true := by simp only [colsOk, hd, h5]; rfl
  have har := rowsOk_inR hr
  simp only [inR, Bool.and_eq_true, decide_eq_true_eq] at har
  have hcs : ∀ r ∈ z.rows, ∀ c ∈ cols, 0 ≤ c ∧ c < r.length := fun r hrm c hc => by
    have h2 := (rowsOk_mem hr hrm).1
    have h3 := (List.all_eq_true.1 hd) c hc
    rw [wrap64_of (by omega) (by omega)] at h3
    simp only [inR, Bool.and_eq_true, decide_eq_true_eq] at h3
    omega
  simp [show ¬ (5 : Int) < cols.length by omega, s32_4, ]
  refine loop_rule (X := Nat) (fun i => i ≤ z.rows.length) (fun i => [(1, .d (.pl (cols.map cI))), (2, .ptr 2 0 0), (4, .ptr 4 0 0), (7, .own 36 0 i), (8, .d (.int .i64 i))])
    (fun i => [(2, some (.box [.d (.int .i64 z.ar), .d (.pl (z.rows.map (cP cI))), .d (.pl (z.cs.map cI))])), (4, some (.box [.d (.int .i64 0), .d (.sl none none []), .d (.sl none none [])])), (36, some (.row 26 1 (((z.rows.take i).map (pickR cols)).map (cP cI))))]) (fun i => z.rows.length - i) 0 (by simp) (by simp) (by simp) ?_
  intro k hs2 t2 m2 hk hh2
  by_cases hlt2 : k < z.rows.length
  · have hwi := wr1 (i := k) (by omega)
    have hL : LenOk 24 (k + 1) := ⟨by omega, by simp only [maxLen]; omega⟩
    refine anyQ fun Q => ?_
    simp [hlt2, cP, s32_4, ]
    refine call_p (w_spec_l5Cols z.rows[k] cols hb (hcs _ (List.getElem_mem hlt2))) (by simp) fun hs3 hh3 _ => ?_
    simp at hh3
    simp [hL, hwi, show min k z.rows.length = k by omega, s32_4, ]
    refine back (k + 1) (by omega) (by omega) rfl (by simp <;> omega) (by simp) ?_
    rw [List.take_succ_eq_append_getElem (by simpa using hlt2)]; simp [cP]
  · have hn : k = z.rows.length := by omega
    subst hn
    simp [s32_4, ]
    have hC := w_spec_l27Sum cols.length (z.rows.map (pickR cols)) z.cs (by simp [inR]; omega) (fun x hx => by
      obtain ⟨r, hrm, rfl⟩ := List.mem_map.1 hx
      exact ⟨by rw [pickR_len], pickR_ok (rowsOk_mem hr hrm).2 (hcs r hrm)⟩) (by simp; omega) (by simp; omega) (cntsOk_cs h1)
    refine call_p hC (by simp [List.take_of_length_le]) fun hs3 hh3 _ => ?_
    simp at hh3
    cases hB : sumB cols.length (z.rows.map (pickR cols)) z.cs
    · simp [projP, projB, h1, hco, hB, sumP, eCnt]
    · simp [projP, projB, h1, hco, hB, sumP, eCnt]

end Go.Proofs.Ytohbmjknaeenjaa
