/-
  W3: a part of a proof of this seat: the value-level semantics of Go code without maps (Vs), its walk rules (Vt), the frame of a row (Vr), facts of types, schedules, walks. It holds of every program and state that its hypotheses name.
-/
import Derived.Test.YtfebikihnljjoaaW2
set_option linter.unusedSimpArgs false
set_option linter.unusedVariables false
namespace Go.Proofs.Ytfebikihnljjoaa
open Go.Vs Go.Proofs Go
set_option maxRecDepth 100000
set_option maxHeartbeats 1000000

theorem v4 (a : Sl FileT) (ha : a.xs.length ≤ maxLen) (hx : ∀ f ∈ a.xs, okFile f) :
   VC Try.prog 4 [.agg [.d (dFiles a)]] (fun _ r => r = .d (.bool true)) := by
  refine VC.of s4 (by kernel_rfl) Try.func4 (by rfl) (by kernel_rfl) (by simp [Try.f4]) s4_ok fun B => ?_
  simp (config := {contextual := true, maxSteps := 1000000}) [Try.f4, dFiles, dSl]
  refine call_pure (v11 a 1048576 (by omega) (by omega) ha hx) rfl (by simp) rfl fun hs' hh' => ?_
  simp
  intro hpos
  have hw : (wFiles a.xs : Int) ≤ 1048576 := by
    apply Int.not_lt.1; intro hc; rw [szv_neg hc] at hpos; omega
  have hlen : a.xs.length ≤ 1048576 := by have : wFiles a.xs = a.xs.length + sumW wFile a.xs := rfl; omega
  refine call_some (v13 a hlen) rfl (by simp) fun n1 hs1 r1 h1 h2 h3 h4 => ?_
  obtain ⟨id1, rfl, h5, h6⟩ := h3
  simp [dFiles, dSl]
  refine call_pure (v12 ⟨id1, some 55, a.xs⟩ hlen) rfl (by simp) rfl fun hs2 hh2 => ?_
  simp [dFiles, dSl]
  refine call_some (v13 a hlen) rfl (by simp) fun n2 hs3 r2 h1' h2' h3' h4' => ?_
  obtain ⟨id2, rfl, h5', h6'⟩ := h3'
  simp [dFiles, dSl]
  refine call_pure (v14 ⟨id2, some 55, a.xs⟩ hlen) rfl (by simp) rfl fun hs4 hh4 => ?_
  simp [dFiles, dSl, s4_10]
  refine call_some (v13 a hlen) rfl (by simp) fun n3 hs5 r3 h1'' h2'' h3'' h4'' => ?_
  obtain ⟨id3, rfl, h5'', h6''⟩ := h3''
  simp [dFiles, dSl]
  refine call_pure (v15 ⟨id2, some 55, a.xs⟩ ⟨id3, some 55, a.xs⟩ hlen) rfl (by simp) rfl fun hs6 hh6 => ?_
  simp
end Go.Proofs.Ytfebikihnljjoaa
