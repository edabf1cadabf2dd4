/-
  W6: a part of a proof of this seat: the value-level semantics of Go code without maps (Vs), its walk rules (Vt), the frame of a row (Vr), facts of types, schedules, walks. It holds of every program and state that its hypotheses name.
-/
import Derived.Test.YtfebikihnljjoaaW5
set_option linter.unusedSimpArgs false
set_option linter.unusedVariables false
namespace Go.Proofs.Ytfebikihnljjoaa
open Go.Vs Go.Proofs Go
set_option maxRecDepth 100000
set_option maxHeartbeats 1000000

theorem eq_step {α : Type} {a b : List α} {i : Nat} (h : i < a.length) (h' : i < b.length) (hi : a.take i = b.take i) : (a[i] = b[i] ↔ a.take (i + 1) = b.take (i + 1)) := by
  rw [List.take_succ_eq_append_getElem (l := b) h', List.take_succ_eq_append_getElem (l := a) h, hi]
  exact ⟨fun h => by rw [h], fun h => by simpa only [List.append_cancel_left_eq, List.cons.injEq, and_true] using h⟩
theorem eq_all {α : Type} {a b : List α} {i : Nat} (h : a.length ≤ i) (hl : a.length = b.length) (hi : a.take i = b.take i) : a = b := by
  rwa [List.take_of_length_le h, List.take_of_length_le (by omega)] at hi

theorem v43 (a b : Ints) (ha : a.xs.length ≤ 1048576) :
   VC Try.prog 43 [.d (dInts a), .d (dInts b)] (fun _ r => r = .d (.bool (a.xs == b.xs))) := by
  refine VC.of s43 (by kernel_rfl) Try.func43 (by rfl) (by kernel_rfl) (by simp [Try.f43]) s43_ok fun B => ?_
  simp [Try.f43, dInts, dSl]
  refine ⟨fun h e => h (by rw [e]), fun hl => ?_⟩
  have hl' : a.xs.length = b.xs.length := by omega
  refine loop_rule (X := Nat) (fun i => i ≤ a.xs.length ∧ a.xs.take i = b.xs.take i) (fun i => [(0, .d (.sl a.id a.T (a.xs.map cI))), (1, .d (.sl b.id b.T (b.xs.map cI))), (5, .d (.int .i64 i))]) (fun _ => []) (fun i => a.xs.length - i) 0 (by simp) (by simp) (by simp) ?_
  intro i hs t m hi hh
  by_cases hlt : i < a.xs.length
  · have hwi : IntKind.i64.wrap ((i : Int) + 1) = (i : Int) + 1 := wrap64_of (by omega) (by omega)
    have hlb : i < b.xs.length := by omega
    have hst := eq_step hlt hlb hi.2
    simp [cI, s43_6, hlt, hlb, hwi]
    refine ⟨fun hne he => hne (by simp [he]), fun heq => ?_⟩
    exact back (i + 1) ⟨by omega, hst.1 heq⟩ (by omega) rfl (by simp) (by simp) (by simp)
  · have hlb : ¬ i < b.xs.length := by omega
    simp [hlt, hlb, eq_all (Nat.le_of_not_lt hlt) hl' hi.2]

theorem v41 (a b : Ints) (ha : a.xs.length ≤ 1048576) :
   VC Try.prog 41 [.d (dInts a), .d (dInts b)] (fun _ r => r = .d (.bool (a.xs == b.xs))) := by
  refine VC.of s41 (by kernel_rfl) Try.func41 (by rfl) (by kernel_rfl) (by simp [Try.f41]) s41_ok fun B => ?_
  simp [Try.f41, dInts, dSl]
  refine ⟨fun h e => h (by rw [e]), fun hl => ?_⟩
  have hl' : a.xs.length = b.xs.length := by omega
  refine loop_rule (X := Nat) (fun i => i ≤ a.xs.length ∧ a.xs.take i = b.xs.take i) (fun i => [(0, .d (.sl a.id a.T (a.xs.map cI))), (1, .d (.sl b.id b.T (b.xs.map cI))), (12, .d (.int .i64 a.xs.length)), (13, .d (.int .i64 i))]) (fun _ => []) (fun i => a.xs.length - i) 0 (by simp) (by simp [hl']) (by simp) ?_
  intro i hs t m hi hh
  by_cases hlt : i < a.xs.length
  · have hwi : IntKind.i64.wrap ((i : Int) + 1) = (i : Int) + 1 := wrap64_of (by omega) (by omega)
    have hlb : i < b.xs.length := by omega
    have hst := eq_step hlt hlb hi.2
    simp [cI, s41_6, hlt, hlb, hwi]
    refine ⟨fun hne he => hne (by simp [he]), fun heq => ?_⟩
    exact back (i + 1) ⟨by omega, hst.1 heq⟩ (by omega) rfl (by simp) (by simp) (by simp)
  · have hlb : ¬ i < b.xs.length := by omega
    simp [hlt, hlb, eq_all (Nat.le_of_not_lt hlt) hl' hi.2]

theorem eq_step' {a b : List Ints} {i : Nat} (h : i < a.length) (h' : i < b.length) (hi : (a.map (·.xs)).take i = (b.map (·.xs)).take i) : (a[i].xs = b[i].xs ↔ (a.map (·.xs)).take (i + 1) = (b.map (·.xs)).take (i + 1)) := by
  have := eq_step (a := a.map (·.xs)) (b := b.map (·.xs)) (i := i) (by simpa using h) (by simpa using h') hi
  simpa only [List.getElem_map] using this

theorem v42 (a b : Go.Vs.Rows) (ha : a.xs.length ≤ 1048576) (hx : ∀ r ∈ a.xs, r.xs.length ≤ 1048576) :
   VC Try.prog 42 [.d (dRows a), .d (dRows b)] (fun _ r => r = .d (.bool (a.xs.map (·.xs) == b.xs.map (·.xs)))) := by
  refine VC.of s42 (by kernel_rfl) Try.func42 (by rfl) (by kernel_rfl) (by simp [Try.f42]) s42_ok fun B => ?_
  simp [Try.f42, dRows, dSl]
  refine ⟨fun h e => h (by have := congrArg List.length e; simp at this; omega), fun hl => ?_⟩
  have hl' : a.xs.length = b.xs.length := by omega
  refine loop_rule (X := Nat) (fun i => i ≤ a.xs.length ∧ (a.xs.map (·.xs)).take i = (b.xs.map (·.xs)).take i) (fun i => [(0, .d (.sl a.id a.T (a.xs.map cInts))), (1, .d (.sl b.id b.T (b.xs.map cInts))), (5, .d (.int .i64 i))]) (fun _ => []) (fun i => a.xs.length - i) 0 (by simp) (by simp) (by simp) ?_
  intro i hs t m hi hh
  by_cases hlt : i < a.xs.length
  · have hwi : IntKind.i64.wrap ((i : Int) + 1) = (i : Int) + 1 := wrap64_of (by omega) (by omega)
    have hlb : i < b.xs.length := by omega
    have hst := eq_step' hlt hlb hi.2
    simp [cInts, s42_6, hlt, hlb]
    refine call_pure (v43 a.xs[i] b.xs[i] (hx _ (by simp))) rfl (by simp) rfl fun hs' hh' => ?_
    simp at hh'
    simp [hwi]
    refine ⟨fun hne he => hne (hst.2 (by rw [he])), fun heq => ?_⟩
    exact back (i + 1) ⟨by omega, hst.1 heq⟩ (by omega) rfl (by simp; omega) (by simp) (by simp)
  · have := eq_all (by simpa using Nat.le_of_not_lt hlt) (by simpa using hl') hi.2
    have hlb : ¬ i < b.xs.length := by omega
    simp [hlt, hlb, this]

theorem v40 (a b : Go.Vs.Rows) (ha : a.xs.length ≤ 1048576) (hx : ∀ r ∈ a.xs, r.xs.length ≤ 1048576) :
   VC Try.prog 40 [.d (dRows a), .d (dRows b)] (fun _ r => r = .d (.bool (a.xs.map (·.xs) == b.xs.map (·.xs)))) := by
  refine VC.of s40 (by kernel_rfl) Try.func40 (by rfl) (by kernel_rfl) (by simp [Try.f40]) s40_ok fun B => ?_
  simp [Try.f40, dRows, dSl]
  refine ⟨fun h e => h (by have := congrArg List.length e; simp at this; omega), fun hl => ?_⟩
  have hl' : a.xs.length = b.xs.length := by omega
  refine loop_rule (X := Nat) (fun i => i ≤ a.xs.length ∧ (a.xs.map (·.xs)).take i = (b.xs.map (·.xs)).take i) (fun i => [(0, .d (.sl a.id a.T (a.xs.map cInts))), (1, .d (.sl b.id b.T (b.xs.map cInts))), (12, .d (.int .i64 a.xs.length)), (13, .d (.int .i64 i))]) (fun _ => []) (fun i => a.xs.length - i) 0 (by simp) (by simp [hl']) (by simp) ?_
  intro i hs t m hi hh
  by_cases hlt : i < a.xs.length
  · have hwi : IntKind.i64.wrap ((i : Int) + 1) = (i : Int) + 1 := wrap64_of (by omega) (by omega)
    have hlb : i < b.xs.length := by omega
    have hst := eq_step' hlt hlb hi.2
    simp [cInts, s40_6, hlt, hlb]
    refine call_pure (v41 a.xs[i] b.xs[i] (hx _ (by simp))) rfl (by simp) rfl fun hs' hh' => ?_
    simp at hh'
    simp [hwi]
    refine ⟨fun hne he => hne (hst.2 (by rw [he])), fun heq => ?_⟩
    exact back (i + 1) ⟨by omega, hst.1 heq⟩ (by omega) rfl (by simp; omega) (by simp) (by simp)
  · have := eq_all (by simpa using Nat.le_of_not_lt hlt) (by simpa using hl') hi.2
    have hlb : ¬ i < b.xs.length := by omega
    simp [hlt, hlb, this]
end Go.Proofs.Ytfebikihnljjoaa
