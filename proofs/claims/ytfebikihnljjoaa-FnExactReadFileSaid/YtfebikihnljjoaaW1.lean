/-
  W1: a part of a proof of this seat: the value-level semantics of Go code without maps (Vs), its walk rules (Vt), the frame of a row (Vr), facts of types, schedules, walks. It holds of every program and state that its hypotheses name.
-/
import Derived.Test.YtfebikihnljjoaaSched1
import Derived.Test.YtfebikihnljjoaaVt1
set_option linter.unusedSimpArgs false
set_option linter.unusedVariables false
namespace Go.Proofs.Ytfebikihnljjoaa
open Go.Vs Go.Proofs Go
set_option maxRecDepth 100000
set_option maxHeartbeats 1000000

/-- a file -/
abbrev FileT := List UInt8 × List UInt8
def cFile (f : FileT) : List D := [.str f.1, .str f.2]
def dFiles (a : Sl FileT) : D := dSl cFile a
def wFile (f : FileT) : Nat := f.1.length + f.2.length
def wFiles (l : List FileT) : Nat := l.length + sumW wFile l

def vFile (f : FileT) : V := .agg [.d (.str f.1), .d (.str f.2)]
def okS (s : List UInt8) : Prop := s.length ≤ maxLen
def okFile (f : FileT) : Prop := okS f.1 ∧ okS f.2

theorem v52 (f : FileT) (left : Int) (h0 : 0 ≤ left) (h1 : left ≤ 1048576) (hl : okFile f) :
   VC Try.prog 52 [.agg [.d (.str f.1), .d (.str f.2)], .d (.int .i64 left)] (fun _ r => r = .d (.int .i64 (szv left (wFile f)))) := by
  refine VC.of s52 (by kernel_rfl) Try.func52 (by rfl) (by kernel_rfl) (by simp [Try.f52]) s52_ok fun B => ?_
  simp only [okFile, okS, maxLen] at hl
  have hw1 : IntKind.i64.wrap (left - (f.1.length : Int)) = left - f.1.length := wrap64_of (by omega) (by omega)
  simp (config := {contextual := true, maxSteps := 1000000}) [Try.f52, hw1]
  have hwf : wFile f = f.1.length + f.2.length := rfl
  refine ⟨fun h => ?_, fun h => ?_⟩
  · rw [szv_neg (by omega)]
  · have hw2 : IntKind.i64.wrap (left - (f.1.length : Int) - f.2.length) = left - f.1.length - f.2.length := wrap64_of (by omega) (by omega)
    rw [hw2]
    refine ⟨fun h' => ?_, fun h' => ?_⟩
    · rw [szv_neg (by omega)]
    · rw [szv_pos (by omega)]; omega

theorem v53 (f : FileT) :
   VC Try.prog 53 [.agg [.d (.str f.1), .d (.str f.2)]] (fun _ r => r = .agg [.d (.str f.1), .d (.str f.2)]) := by
  refine VC.of s53 (by kernel_rfl) Try.func53 (by rfl) (by kernel_rfl) (by simp [Try.f53]) s53_ok fun B => ?_
  simp (config := {contextual := true, maxSteps := 1000000}) [Try.f53]
theorem v54 (a b : FileT) :
   VC Try.prog 54 [.agg [.d (.str a.1), .d (.str a.2)], .agg [.d (.str b.1), .d (.str b.2)]] (fun _ r => r = .d (.bool (a == b))) := by
  refine VC.of s54 (by kernel_rfl) Try.func54 (by rfl) (by kernel_rfl) (by simp [Try.f54]) s54_ok fun B => ?_
  simp (config := {contextual := true, maxSteps := 1000000}) [Try.f54]
  obtain ⟨a1, a2⟩ := a
  obtain ⟨b1, b2⟩ := b
  simp (config := {contextual := true})

theorem v31 (a : Sl FileT) (left : Int) (h0 : 0 ≤ left) (h1 : left ≤ 1048576) (ha : a.xs.length ≤ maxLen) (hx : ∀ f ∈ a.xs, okFile f) :
   VC Try.prog 31 [.d (dFiles a), .d (.int .i64 left)] (fun _ r => r = .d (.int .i64 (szv left (wFiles a.xs)))) := by
  refine VC.of s31 (by kernel_rfl) Try.func31 (by rfl) (by kernel_rfl) (by simp [Try.f31]) s31_ok fun B => ?_
  simp only [maxLen] at ha
  have hw1 : IntKind.i64.wrap (left - (a.xs.length : Int)) = left - a.xs.length := wrap64_of (by omega) (by omega)
  simp (config := {contextual := true, maxSteps := 1000000}) [Try.f31, dFiles, dSl, hw1]
  refine ⟨fun h => ?_, fun h => ?_⟩
  · rw [szv_neg (by have : wFiles a.xs = a.xs.length + sumW wFile a.xs := rfl; omega)]
  · refine loop_rule (X := Nat) (fun i => i ≤ a.xs.length ∧ 0 ≤ left - a.xs.length - sumW wFile (a.xs.take i)) (fun i => [(0, .d (.sl a.id a.T (a.xs.map cFile))), (1, .d (.int .i64 (left - a.xs.length - sumW wFile (a.xs.take i)))), (5, .d (.int .i64 i))]) (fun _ => []) (fun i => a.xs.length - i) 0 ?_ ?_ (by simp) ?_
    · simp; omega
    · simp
    · intro i hs t m hi hh
      simp (config := {contextual := true, maxSteps := 1000000}) [cFile]
      refine ⟨fun hlt => ?_, fun hge => ?_⟩
      · refine call_pure (v52 a.xs[i] _ (by omega) (by omega) (hx _ (by simp))) rfl (by simp) rfl fun hs' hh' => ?_
        have e1 := sumW_succ wFile hlt
        have e2 := sumW_le wFile a.xs (i + 1)
        have hwi : IntKind.i64.wrap ((i : Int) + 1) = (i : Int) + 1 := wrap64_of (by omega) (by omega)
        simp (config := {contextual := true, maxSteps := 1000000}) [hwi]
        refine ⟨fun hneg => ?_, fun hpos => ?_⟩
        · rw [szv_neg]
          by_cases hc : (wFile a.xs[i] : Int) ≤ left - a.xs.length - sumW wFile (a.xs.take i)
          · rw [szv_pos hc] at hneg; omega
          · have : wFiles a.xs = a.xs.length + sumW wFile a.xs := rfl
            omega
        · have hc : (wFile a.xs[i] : Int) ≤ left - a.xs.length - sumW wFile (a.xs.take i) := by
            apply Int.not_lt.1; intro hc; rw [szv_neg hc] at hpos; omega
          rw [szv_pos hc]
          refine back (i + 1) ⟨by omega, by omega⟩ (by omega) rfl (by simp; omega) ?_ (by simp)
          simp
          omega
      · have : i = a.xs.length := by omega
        subst this
        rw [szv_pos] <;> (have : wFiles a.xs = a.xs.length + sumW wFile a.xs := rfl; simp at hi ⊢; omega)
end Go.Proofs.Ytfebikihnljjoaa
