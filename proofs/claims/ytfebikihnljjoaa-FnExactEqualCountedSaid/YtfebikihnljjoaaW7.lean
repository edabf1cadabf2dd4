/-
  W7: a part of a proof of this seat: the value-level semantics of Go code without maps (Vs), its walk rules (Vt), the frame of a row (Vr), facts of types, schedules, walks. It holds of every program and state that its hypotheses name.
-/
import Derived.Test.YtfebikihnljjoaaW6
set_option linter.unusedSimpArgs false
set_option linter.unusedVariables false
namespace Go.Proofs.Ytfebikihnljjoaa
open Go.Vs Go.Proofs Go
set_option maxRecDepth 100000
set_option maxHeartbeats 1000000

/-- how two rows stand to each other -/
def cmpL : List Int → List Int → Int
  | [], [] => 0
  | [], _ :: _ => -1
  | _ :: _, [] => 1
  | x :: a, y :: b => if x < y then -1 else if y < x then 1 else cmpL a b
theorem cmpL_zero : ∀ (a b : List Int), cmpL a b = 0 ↔ a = b
  | [], [] => by simp [cmpL]
  | [], _ :: _ => by simp [cmpL]
  | _ :: _, [] => by simp [cmpL]
  | x :: a, y :: b => by
    simp only [cmpL]
    split
    · simp; omega
    · split
      · simp; omega
      · rw [cmpL_zero a b]
        have : x = y := by omega
        simp [this]
theorem cmpL_drop {a b : List Int} {i : Nat} (h : i < a.length) (h' : i < b.length) : cmpL (a.drop i) (b.drop i) = if a[i] < b[i] then -1 else if b[i] < a[i] then 1 else cmpL (a.drop (i + 1)) (b.drop (i + 1)) := by
  rw [List.drop_eq_getElem_cons h, List.drop_eq_getElem_cons h']
  simp only [cmpL]
theorem cmpL_end {a b : List Int} {i : Nat} (hi : i ≤ a.length) (hi' : i ≤ b.length) (h : ¬ (i < a.length ∧ i < b.length)) : cmpL (a.drop i) (b.drop i) = if a.length < b.length then -1 else if b.length < a.length then 1 else 0 := by
  by_cases h1 : i = a.length
  · by_cases h2 : i = b.length
    · rw [List.drop_of_length_le (by omega), List.drop_of_length_le (by omega)]
      simp [cmpL]; omega
    · have h3 : i < b.length := by omega
      rw [List.drop_of_length_le (l := a) (by omega), List.drop_eq_getElem_cons h3]
      simp only [cmpL]; rw [if_pos (by omega)]
  · have h2 : i = b.length := by omega
    have h3 : i < a.length := by omega
    rw [List.drop_of_length_le (l := b) (by omega), List.drop_eq_getElem_cons h3]
    simp only [cmpL]; rw [if_neg (by omega), if_pos (by omega)]

theorem v37 (a b : Ints) (ha : a.xs.length ≤ 1048576) (hb : b.xs.length ≤ 1048576) :
   VC Try.prog 37 [.d (dInts a), .d (dInts b)] (fun _ r => r = .d (.int .i64 (cmpL a.xs b.xs))) := by
  refine VC.of s37 (by kernel_rfl) Try.func37 (by rfl) (by kernel_rfl) (by simp [Try.f37]) s37_ok fun B => ?_
  simp [Try.f37, dInts, dSl]
  refine loop_rule (X := Nat) (fun i => i ≤ a.xs.length ∧ i ≤ b.xs.length ∧ cmpL a.xs b.xs = cmpL (a.xs.drop i) (b.xs.drop i)) (fun i => [(0, .d (.sl a.id a.T (a.xs.map cI))), (1, .d (.sl b.id b.T (b.xs.map cI))), (5, .d (.int .i64 i))]) (fun _ => []) (fun i => a.xs.length - i) 0 (by simp) (by simp) (by simp) ?_
  intro i hs t m hi hh
  by_cases hlt : i < a.xs.length
  · by_cases hlb : i < b.xs.length
    · have hwi : IntKind.i64.wrap ((i : Int) + 1) = (i : Int) + 1 := wrap64_of (by omega) (by omega)
      have hc := cmpL_drop hlt hlb
      simp [cI, s37_4, s37_6, hlt, hlb, hwi]
      refine ⟨fun h1 => by rw [hi.2.2, hc, if_pos h1], fun h1 => ⟨fun h2 => by rw [hi.2.2, hc, if_neg (by omega), if_pos h2], fun h2 => ?_⟩⟩
      refine back (i + 1) ⟨by omega, by omega, ?_⟩ (by omega) rfl (by simp) (by simp) (by simp)
      rw [hi.2.2, hc, if_neg (by omega), if_neg (by omega)]
    · have he := cmpL_end hi.1 hi.2.1 (by omega)
      simp [hlt, hlb]
      exact ⟨fun h => by rw [hi.2.2, he, if_pos h], fun h => ⟨fun h' => by rw [hi.2.2, he, if_neg (by omega), if_pos h'], fun h' => by rw [hi.2.2, he, if_neg (by omega), if_neg (by omega)]⟩⟩
  · have he := cmpL_end hi.1 hi.2.1 (by omega)
    simp [hlt]
    exact ⟨fun h => by rw [hi.2.2, he, if_pos h], fun h => ⟨fun h' => by rw [hi.2.2, he, if_neg (by omega), if_pos h'], fun h' => by rw [hi.2.2, he, if_neg (by omega), if_neg (by omega)]⟩⟩
end Go.Proofs.Ytfebikihnljjoaa
