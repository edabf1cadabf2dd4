/-
  W5: a part of a proof of this seat: the value-level semantics of Go code without maps (Vs), its walk rules (Vt), the frame of a row (Vr), facts of types, schedules, walks. It holds of every program and state that its hypotheses name.
-/
import Derived.Test.YtfebikihnljjoaaSched1
import Derived.Test.YtfebikihnljjoaaVt1
set_option linter.unusedSimpArgs false
set_option linter.unusedVariables false
namespace Go.Proofs.Ytfebikihnljjoaa
open Go.Vs Go.Proofs Go
set_option maxRecDepth 100000
set_option maxHeartbeats 1000000

def wInts (l : List Int) : Nat := l.length
def wRows (l : List Ints) : Nat := l.length + sumW (fun r => wInts r.xs) l
def okInts (a : Ints) : Prop := a.xs.length ≤ maxLen

theorem v35 (a : Ints) (left : Int) (h0 : 0 ≤ left) (h1 : left ≤ 1048576) (ha : okInts a) :
   VC Try.prog 35 [.d (dInts a), .d (.int .i64 left)] (fun _ r => r = .d (.int .i64 (szv left (wInts a.xs)))) := by
  refine VC.of s35 (by kernel_rfl) Try.func35 (by rfl) (by kernel_rfl) (by simp [Try.f35]) s35_ok fun B => ?_
  simp only [okInts, maxLen] at ha
  have hw1 : IntKind.i64.wrap (left - (a.xs.length : Int)) = left - a.xs.length := wrap64_of (by omega) (by omega)
  have hwf : wInts a.xs = a.xs.length := rfl
  simp [Try.f35, dInts, dSl, hw1]
  refine ⟨fun h => ?_, fun h => ?_⟩
  · rw [szv_neg (by omega)]
  · rw [szv_pos (by omega)]; omega

theorem v34 (a : Go.Vs.Rows) (left : Int) (h0 : 0 ≤ left) (h1 : left ≤ 1048576) (ha : a.xs.length ≤ maxLen) (hx : ∀ f ∈ a.xs, okInts f) :
   VC Try.prog 34 [.d (dRows a), .d (.int .i64 left)] (fun _ r => r = .d (.int .i64 (szv left (wRows a.xs)))) := by
  refine VC.of s34 (by kernel_rfl) Try.func34 (by rfl) (by kernel_rfl) (by simp [Try.f34]) s34_ok fun B => ?_
  simp only [maxLen] at ha
  have hw1 : IntKind.i64.wrap (left - (a.xs.length : Int)) = left - a.xs.length := wrap64_of (by omega) (by omega)
  have hwt : wRows a.xs = a.xs.length + sumW (fun r => wInts r.xs) a.xs := rfl
  simp [Try.f34, dRows, dSl, hw1]
  refine ⟨fun h => ?_, fun h => ?_⟩
  · rw [szv_neg (by omega)]
  · refine loop_rule (X := Nat) (fun i => i ≤ a.xs.length ∧ 0 ≤ left - a.xs.length - sumW (fun r => wInts r.xs) (a.xs.take i)) (fun i => [(0, .d (.sl a.id a.T (a.xs.map cInts))), (1, .d (.int .i64 (left - a.xs.length - sumW (fun r => wInts r.xs) (a.xs.take i)))), (5, .d (.int .i64 i))]) (fun _ => []) (fun i => a.xs.length - i) 0 ?_ ?_ (by simp) ?_
    · simp; omega
    · simp
    · intro i hs t m hi hh
      by_cases hlt : i < a.xs.length
      · simp [cInts, hlt]
        refine call_pure (v35 a.xs[i] _ (by omega) (by omega) (hx _ (by simp))) rfl (by simp) rfl fun hs' hh' => ?_
        have e1 := sumW_succ (fun r : Ints => wInts r.xs) hlt
        have e2 := sumW_le (fun r : Ints => wInts r.xs) a.xs (i + 1)
        have hwi : IntKind.i64.wrap ((i : Int) + 1) = (i : Int) + 1 := wrap64_of (by omega) (by omega)
        simp [hwi]
        refine ⟨fun hneg => ?_, fun hpos => ?_⟩
        · rw [szv_neg]
          by_cases hc : (wInts a.xs[i].xs : Int) ≤ left - a.xs.length - sumW (fun r => wInts r.xs) (a.xs.take i)
          · rw [szv_pos hc] at hneg; omega
          · omega
        · have hc : (wInts a.xs[i].xs : Int) ≤ left - a.xs.length - sumW (fun r => wInts r.xs) (a.xs.take i) := by
            apply Int.not_lt.1; intro hc; rw [szv_neg hc] at hpos; omega
          rw [szv_pos hc]
          refine back (i + 1) ⟨by omega, by omega⟩ (by omega) rfl (by simp; omega) ?_ (by simp)
          simp
          omega
      · have : i = a.xs.length := by omega
        subst this
        simp
        rw [szv_pos] <;> (simp at hi ⊢; omega)

theorem v39 (a : Ints) (ha : a.xs.length ≤ 1048576) :
   VC Try.prog 39 [.d (dInts a)] (fun n r => ∃ id, r = .d (dInts ⟨id, some 3, a.xs⟩) ∧ (∀ g, id = some g → n ≤ g) ∧ (a.xs ≠ [] → id ≠ none)) := by
  refine VC.of s39 (by kernel_rfl) Try.func39 (by rfl) (by kernel_rfl) (by simp [Try.f39]) s39_ok fun B => ?_
  simp [Try.f39, dInts, dSl]
  refine ⟨⟨by omega, by simp only [maxLen]; omega⟩, ?_⟩
  refine loop_rule (X := Nat) (fun i => i ≤ a.xs.length) (fun i => [(0, .d (.sl a.id a.T (a.xs.map cI))), (3, .own 7 0 a.xs.length), (4, .d (.int .i64 i))]) (fun i => [(7, some (.row 3 1 (fill [.int .i64 0] (a.xs.map cI) i)))]) (fun i => a.xs.length - i) 0 (by simp) (by simp) (by simp) ?_
  intro i hs t m hi hh
  by_cases hlt : i < a.xs.length
  · have hwi : IntKind.i64.wrap ((i : Int) + 1) = (i : Int) + 1 := wrap64_of (by omega) (by omega)
    simp [cI, hlt, hwi]
    refine back (i + 1) (by omega) (by omega) rfl (by simp) (by simp) ?_
    have := fill_set (z := [.int .i64 0]) (l := a.xs.map cI) (i := i) (by simpa using hlt) (by simp [hlt]; rfl)
    simp only [cI] at this ⊢
    simp [this]
  · have hn : i = a.xs.length := by omega
    subst hn
    have hf : fill [.int .i64 0] (a.xs.map cI) a.xs.length = a.xs.map cI := fill_all (by simp)
    simp [hf]
    intro γ hs' h1 hg
    obtain ⟨q1, q2⟩ := gam_at hg (k := 7) (T := 3) (sz := 1) (es := a.xs.map cI) (by simp)
    clear hg
    refine ⟨γ 7, ?_⟩
    exact ⟨⟨rfl, List.take_of_length_le (by simp)⟩, fun g hg => (q1 g hg).1, by simpa using q2⟩
end Go.Proofs.Ytfebikihnljjoaa
