/-
  W9: a part of a proof of this seat: the value-level semantics of Go code without maps (Vs), its walk rules (Vt), the frame of a row (Vr), facts of types, schedules, walks. It holds of every program and state that its hypotheses name.
-/
import Derived.Test.YtfebikihnljjoaaW7
import Derived.Test.YtfebikihnljjoaaW8
set_option linter.unusedSimpArgs false
set_option linter.unusedVariables false
namespace Go.Proofs.Ytfebikihnljjoaa
open Go.Vs Go.Proofs Go
set_option maxRecDepth 100000
set_option maxHeartbeats 1000000

/-- a counted relation -/
structure Cnt where
  ar : Int
  rows : Go.Vs.Rows
  cs : Ints
instance : Inhabited Cnt := ⟨⟨0, default, default⟩⟩
def cCnt (a : Cnt) : List D := [.int .i64 a.ar, dRows a.rows, dInts a.cs]
def Cnt.val (a : Cnt) : Int × List (List Int) × List Int := (a.ar, a.rows.xs.map (·.xs), a.cs.xs)
def small (a : Cnt) : Prop := a.rows.xs.length ≤ 1048576 ∧ (∀ r ∈ a.rows.xs, r.xs.length ≤ 1048576) ∧ a.cs.xs.length ≤ 1048576
def okCnt (a : Cnt) : Prop := a.rows.xs.length ≤ maxLen ∧ (∀ r ∈ a.rows.xs, okInts r) ∧ okInts a.cs
def wCnt (a : Cnt) : Nat := wRows a.rows.xs + wInts a.cs.xs

theorem v18 (a : Cnt) (left : Int) (h0 : 0 ≤ left) (h1 : left ≤ 1048576) (ha : okCnt a) :
   VC Try.prog 18 [.agg [.d (.int .i64 a.ar), .d (dRows a.rows), .d (dInts a.cs)], .d (.int .i64 left)] (fun _ r => r = .d (.int .i64 (szv left (wCnt a)))) := by
  refine VC.of s18 (by kernel_rfl) Try.func18 (by rfl) (by kernel_rfl) (by simp [Try.f18]) s18_ok fun B => ?_
  have hw : wCnt a = wRows a.rows.xs + wInts a.cs.xs := rfl
  simp [Try.f18]
  refine call_pure (v34 a.rows left h0 h1 ha.1 ha.2.1) rfl (by simp) rfl fun hs' hh' => ?_
  simp
  by_cases hc : (wRows a.rows.xs : Int) ≤ left
  · rw [szv_pos hc]
    simp
    refine ⟨fun h => by omega, fun h => ?_⟩
    refine call_pure (v35 a.cs (left - wRows a.rows.xs) (by omega) (by omega) ha.2.2) rfl (by simp) rfl fun hs2 hh2 => ?_
    simp
    by_cases hd : (wInts a.cs.xs : Int) ≤ left - wRows a.rows.xs
    · rw [szv_pos hd, szv_pos (by omega)]
      refine ⟨fun h => by omega, fun h => by omega⟩
    · rw [szv_neg (by omega), szv_neg (by omega)]; simp
  · rw [szv_neg (by omega)]
    refine ⟨fun h => by rw [szv_neg (by omega)], fun h => by omega⟩

theorem v36 (a b : Go.Vs.Rows) (x y : Int) (ha : a.xs.length ≤ 1048576) (hx : ∀ r ∈ a.xs, r.xs.length ≤ 1048576) (hy : ∀ r ∈ b.xs, r.xs.length ≤ 1048576) :
   VC Try.prog 36 [.agg [.d (.int .i64 x), .d (dRows a)], .agg [.d (.int .i64 y), .d (dRows b)]] (fun _ r => r = .d (.bool (decide (x = y) && (a.xs.map (·.xs) == b.xs.map (·.xs))))) := by
  refine VC.of s36 (by kernel_rfl) Try.func36 (by rfl) (by kernel_rfl) (by simp [Try.f36]) s36_ok fun B => ?_
  by_cases hxy : x = y
  · subst hxy
    by_cases hl' : a.xs.length = b.xs.length
    · simp [Try.f36, dRows, dSl, hl']
      refine loop_rule (X := Nat) (fun i => i ≤ a.xs.length ∧ (a.xs.map (·.xs)).take i = (b.xs.map (·.xs)).take i) (fun i => [(2, .ptr 2 0 0), (3, .ptr 3 0 0), (5, .d (.int .i64 i))]) (fun _ => [(2, some (.box [.d (.int .i64 x), .d (.sl a.id a.T (a.xs.map cInts))])), (3, some (.box [.d (.int .i64 x), .d (.sl b.id b.T (b.xs.map cInts))]))]) (fun i => a.xs.length - i) 0 (by simp) (by simp) (by simp) ?_
      intro i hs t m hi hh
      by_cases hlt : i < a.xs.length
      · have hwi : IntKind.i64.wrap ((i : Int) + 1) = (i : Int) + 1 := wrap64_of (by omega) (by omega)
        have hlb : i < b.xs.length := by omega
        have hst := eq_step' hlt hlb hi.2
        simp [cInts, s36_6, hlt, hlb]
        refine call_pure (v37 a.xs[i] b.xs[i] (hx _ (by simp)) (hy _ (by simp))) rfl (by simp) rfl fun hs' hh' => ?_
        simp at hh'
        simp [hwi]
        refine ⟨fun hne he => hne ((cmpL_zero _ _).2 (hst.2 (by rw [he]))), fun heq => ?_⟩
        exact back (i + 1) ⟨by omega, hst.1 ((cmpL_zero _ _).1 heq)⟩ (by omega) rfl (by simp; omega) (by simp) (by simp)
      · have := eq_all (by simpa using Nat.le_of_not_lt hlt) (by simpa using hl') hi.2
        have hlb : ¬ i < b.xs.length := by omega
        simp [hlt, hlb, this]
    · have : ¬ (a.xs.map (·.xs) = b.xs.map (·.xs)) := fun e => by have := congrArg List.length e; simp at this; omega
      have h2 : ¬ (a.xs.length : Int) = b.xs.length := by omega
      simp [Try.f36, dRows, dSl, hl', this, h2]
  · simp [Try.f36, dRows, dSl, hxy]
end Go.Proofs.Ytfebikihnljjoaa
