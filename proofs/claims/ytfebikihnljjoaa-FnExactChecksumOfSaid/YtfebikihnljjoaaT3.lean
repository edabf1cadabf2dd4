/-
  T3: a part of a proof of this seat: the value-level semantics of Go code without maps (Vs), its walk rules (Vt), the frame of a row (Vr), facts of types, schedules, walks. It holds of every program and state that its hypotheses name.
-/
import Derived.Test.YtfebikihnljjoaaSched1
import Derived.Test.YtfebikihnljjoaaVt1
set_option linter.unusedSimpArgs false
set_option linter.unusedVariables false
namespace Go.Proofs.Ytfebikihnljjoaa
open Go.Vs Go.Proofs Go
set_option maxRecDepth 100000

def ckStep (n : Int) (c : UInt8) : Int := (IntKind.i64.wrap (IntKind.i64.wrap (IntKind.i64.wrap (n * 31) + IntKind.i64.wrap (c.toNat : Int)) + 1)).tmod 65521
def ck (s : List UInt8) : Int := s.foldl ckStep 7
theorem ck_step {s : List UInt8} {i : Nat} (h : i < s.length) : (s.take (i + 1)).foldl ckStep 7 = ckStep ((s.take i).foldl ckStep 7) s[i] := by
  rw [List.take_succ_eq_append_getElem h, List.foldl_append]; simp only [List.foldl]
theorem ck_all {s : List UInt8} {i : Nat} (h : i = s.length) : (s.take i).foldl ckStep 7 = ck s := by
  subst h; rw [List.take_length, ck]

theorem v9 (s : List UInt8) (hs : s.length ≤ 4294967296) :
   VC Try.prog 9 [.d (.str s)] (fun _ r => r = .d (.int .i64 (ck s))) := by
  refine VC.of s9 (by kernel_rfl) Try.func9 (by rfl) (by kernel_rfl) (by simp [Try.f9]) s9_ok fun B => ?_
  simp (config := {contextual := true}) [Try.f9, St.start]
  refine loop_rule (X := Nat) (fun i => i ≤ s.length) (fun i => [(0, .d (.str s)), (3, .d (.int .i64 ((s.take i).foldl ckStep 7))), (4, .d (.int .i64 i))]) (fun _ => []) (fun i => s.length - i) 0 (by simp) (by simp) (by simp) ?_
  intro i hs t m hi hh
  simp (config := {contextual := true}) []
  refine ⟨fun hlt => ?_, fun hge => ?_⟩
  · refine back (i + 1) (by omega) (by omega) rfl (by simp) ?_ (by simp)
    have hw : IntKind.i64.wrap ((i : Int) + 1) = (i : Int) + 1 := wrap64_of (by omega) (by omega)
    simp [hw]
    exact (ck_step hlt).symm
  · exact ck_all (by omega)
theorem v10 (s : List UInt8) (hs : s.length ≤ 4294967296) :
   VC Try.prog 10 [.d (.str s)] (fun _ r => r = .d (.int .i64 (ck s))) := by
  refine VC.of s10 (by kernel_rfl) Try.func10 (by rfl) (by kernel_rfl) (by simp [Try.f10]) s10_ok fun B => ?_
  simp (config := {contextual := true}) [Try.f10, St.start]
  refine loop_rule (X := Nat) (fun i => i ≤ s.length) (fun i => [(0, .d (.str s)), (3, .d (.int .i64 ((s.take i).foldl ckStep 7))), (4, .d (.int .i64 i))]) (fun _ => []) (fun i => s.length - i) 0 (by simp) (by simp) (by simp) ?_
  intro i hs t m hi hh
  simp (config := {contextual := true}) []
  refine ⟨fun hlt => ?_, fun hge => ?_⟩
  · refine back (i + 1) (by omega) (by omega) rfl (by simp) ?_ (by simp)
    have hw : IntKind.i64.wrap ((i : Int) + 1) = (i : Int) + 1 := wrap64_of (by omega) (by omega)
    simp [hw]
    rw [Int.mul_comm]
    exact (ck_step hlt).symm
  · exact ck_all (by omega)
theorem v3 (s : List UInt8) :
   VC Try.prog 3 [.d (.str s)] (fun _ r => r = .d (.bool true)) := by
  refine VC.of s3 (by kernel_rfl) Try.func3 (by rfl) (by kernel_rfl) (by simp [Try.f3]) s3_ok fun B => ?_
  simp (config := {contextual := true}) [Try.f3, St.start]
  intro h1
  refine call_pure (v9 s (by omega)) rfl (by simp) rfl fun hs' hh => ?_
  simp
  refine call_pure (v10 s (by omega)) rfl (by simp) rfl fun hs' hh => ?_
  simp
end Go.Proofs.Ytfebikihnljjoaa
