/-
  H0: a part of a proof of this seat: the value-level semantics of Go code without maps (Vs), its walk rules (Vt), the frame of a row (Vr), facts of types, schedules, walks. It holds of every program and state that its hypotheses name.
-/
import Derived.Test.YtfebikihnljjoaaSched1
set_option linter.unusedSimpArgs false
set_option linter.unusedVariables false
namespace Go.Proofs.Ytfebikihnljjoaa
open Go.Vs Go.Proofs Go
set_option maxRecDepth 100000
set_option maxHeartbeats 1000000


theorem w_laws_markText (k : Int) (h0 : 1 ≤ k) (h1 : k ≤ 4611686018427387904) :
   VC Try.prog 55 [.d (.int .i64 k)] (fun _ r => r = .d (.str (mtext k))) := by
  refine VC.of E s55 (by kernel_rfl) Try.func55 (by rfl) (by kernel_rfl) (by simp [Try.f55]) (by simp [Try.f55]) s55_ok fun B => ?_
  simp [Try.f55, show ¬ k ≤ 0 by omega]
  refine loop_rule (X := Nat × Int × List UInt8) (fun x => x.1 ≤ 64 ∧ 0 ≤ x.2.1 ∧ x.2.1 < 2 ^ x.1 ∧ x.2.2.length + x.1 = 64 ∧ mdig x.1 x.2.1 x.2.2 = mdig 64 k []) (fun x => [(0, .d (.int .i64 x.2.1)), (3, .d (.str x.2.2))]) (fun _ => []) (fun x => x.1) (64, k, []) ?_ (by simp) (by simp) ?_
  · simp; omega
  · rintro ⟨n, q, o⟩ hs t m ⟨hi1, hi2, hi3, hi4, hi5⟩ hh
    simp only at hi1 hi2 hi3 hi4 hi5
    by_cases hq : 0 < q
    · obtain ⟨n, rfl⟩ : ∃ n', n = n' + 1 := by
        cases n with
        | zero => simp at hi3; omega
        | succ n => exact ⟨n, rfl⟩
      have e1 : q.tmod 10 = q % 10 := Int.tmod_eq_emod_of_nonneg hi2
      have e2 : q.tdiv 10 = q / 10 := Int.tdiv_eq_ediv_of_nonneg hi2
      have hp : (2 : Int) ^ (n + 1) = 2 * 2 ^ n := by rw [Int.pow_succ]; omega
      have hb : (2 : Int) ^ n ≤ 2 ^ 63 := by
        have : n ≤ 63 := by omega
        exact_mod_cast Nat.pow_le_pow_right (by decide : 0 < 2) this
      simp only [hp] at hi3
      have e3 : IntKind.i64.wrap (48 + q.tmod 10) = 48 + q.tmod 10 := by rw [e1]; exact wrap64_of (by omega) (by omega)
      have e4 : IntKind.i64.wrap (q.tdiv 10) = q.tdiv 10 := by rw [e2]; exact wrap64_of (by omega) (by simp at hb; omega)
      simp [hq, e3, e4, isB, toB]
      refine ⟨by omega, ?_⟩
      refine back (n, q.tdiv 10, UInt8.ofNat (IntKind.u8.wrap (48 + q.tmod 10)).toNat :: o) ⟨by simp; omega, by simp [e2]; omega, by simp [e2]; omega, by simp at hi4 ⊢; omega, ?_⟩ (by simp) rfl (by simp) (by simp) (by simp)
      rw [← hi5]
      simp only [mdig, if_pos hq]
    · have hz : q = 0 := by omega
      subst hz
      have : mdig n 0 o = o := by cases n <;> simp [mdig]
      rw [this] at hi5
      simp [mtext, ← hi5]
      omega

end Go.Proofs.Ytfebikihnljjoaa
