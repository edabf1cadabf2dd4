/-
  W4: a part of a proof of this seat: the value-level semantics of Go code without maps (Vs), its walk rules (Vt), the frame of a row (Vr), facts of types, schedules, walks. It holds of every program and state that its hypotheses name.
-/
import Derived.Test.YtfebikihnljjoaaW3
set_option linter.unusedSimpArgs false
set_option linter.unusedVariables false
namespace Go.Proofs.Ytfebikihnljjoaa
open Go.Vs Go.Proofs Go
set_option maxRecDepth 100000
set_option maxHeartbeats 1000000

/-- what a name's file holds -/
def readOf : Option FileT → List UInt8 × Bool
  | some f => (f.2, true)
  | none => ([], false)
def readF (l : List FileT) (name : List UInt8) : List UInt8 × Bool := readOf (l.find? fun f => f.1 == name)
def noF (l : List FileT) (n : List UInt8) (i : Nat) : Prop := (l.take i).find? (fun f => f.1 == n) = none
@[simp] theorem noF_zero (l : List FileT) (n : List UInt8) : noF l n 0 := rfl
theorem read_step {l : List FileT} {n : List UInt8} {i : Nat} (h : i < l.length) (h1 : noF l n i) (h2 : ¬ l[i].1 = n) : noF l n (i + 1) := by
  unfold noF at *
  rw [List.take_succ_eq_append_getElem h, List.find?_append, h1]
  simp [h2]
theorem read_hit {l : List FileT} {n : List UInt8} {i : Nat} (h : i < l.length) (h1 : noF l n i) (h2 : l[i].1 = n) : readF l n = (l[i].2, true) := by
  unfold noF at h1
  have h3 : (l.take (i + 1)).find? (fun f => f.1 == n) = some l[i] := by
    rw [List.take_succ_eq_append_getElem h, List.find?_append, h1]; simp [h2]
  have h4 : l.find? (fun f => f.1 == n) = some l[i] := by
    have h5 := List.find?_append (p := fun f : FileT => f.1 == n) (xs := l.take (i + 1)) (ys := l.drop (i + 1))
    rw [List.take_append_drop, h3] at h5
    simpa using h5
  simp only [readF, h4, readOf]
theorem read_end {l : List FileT} {n : List UInt8} {i : Nat} (h : l.length ≤ i) (h1 : noF l n i) : readF l n = ([], false) := by
  unfold noF at h1
  rw [List.take_of_length_le h] at h1
  simp only [readF, h1, readOf]

theorem v16 (a : Sl FileT) (n : List UInt8) (ha : a.xs.length ≤ 1048576) :
   VC Try.prog 16 [.agg [.d (dFiles a)], .d (.str n)] (fun _ r => r = .tup [.d (.str (readF a.xs n).1), .d (.bool (readF a.xs n).2)]) := by
  refine VC.of s16 (by kernel_rfl) Try.func16 (by rfl) (by kernel_rfl) (by simp [Try.f16]) s16_ok fun B => ?_
  simp [Try.f16, dFiles, dSl]
  refine loop_rule (X := Nat) (fun i => i ≤ a.xs.length ∧ noF a.xs n i) (fun i => [(1, .d (.str n)), (2, .ptr 2 0 0), (6, .d (.int .i64 i))]) (fun _ => [(2, some (.box [.d (.sl a.id a.T (a.xs.map cFile))]))]) (fun i => a.xs.length - i) 0 (by simp) (by simp) (by simp) ?_
  intro i hs t m hi hh
  by_cases hlt : i < a.xs.length
  · by_cases he : a.xs[i].1 = n
    · simp [cFile, hlt, he, read_hit hlt hi.2 he]
    · have hwi : IntKind.i64.wrap ((i : Int) + 1) = (i : Int) + 1 := wrap64_of (by omega) (by omega)
      simp [cFile, hlt, he, hwi]
      exact back (i + 1) ⟨by omega, read_step hlt hi.2 he⟩ (by omega) rfl (by simp) (by simp) (by simp)
  · simp [cFile, hlt, read_end (Nat.le_of_not_lt hlt) hi.2]
theorem v17 (a : Sl FileT) (n : List UInt8) (ha : a.xs.length ≤ 1048576) :
   VC Try.prog 17 [.agg [.d (dFiles a)], .d (.str n)] (fun _ r => r = .tup [.d (.str (readF a.xs n).1), .d (.bool (readF a.xs n).2)]) := by
  refine VC.of s17 (by kernel_rfl) Try.func17 (by rfl) (by kernel_rfl) (by simp [Try.f17]) s17_ok fun B => ?_
  simp [Try.f17, dFiles, dSl]
  refine loop_rule (X := Nat) (fun i => i ≤ a.xs.length ∧ noF a.xs n i) (fun i => [(1, .d (.str n)), (9, .d (.sl a.id a.T (a.xs.map cFile))), (10, .d (.int .i64 a.xs.length)), (11, .d (.int .i64 i))]) (fun _ => []) (fun i => a.xs.length - i) 0 (by simp) (by simp) (by simp) ?_
  intro i hs t m hi hh
  by_cases hlt : i < a.xs.length
  · by_cases he : a.xs[i].1 = n
    · simp [cFile, hlt, he, read_hit hlt hi.2 he]
    · have hwi : IntKind.i64.wrap ((i : Int) + 1) = (i : Int) + 1 := wrap64_of (by omega) (by omega)
      simp [cFile, hlt, he, hwi]
      exact back (i + 1) ⟨by omega, read_step hlt hi.2 he⟩ (by omega) rfl (by simp) (by simp) (by simp)
  · simp [cFile, hlt, read_end (Nat.le_of_not_lt hlt) hi.2]

theorem v5 (a : Sl FileT) (n : List UInt8) (ha : a.xs.length ≤ maxLen) (hx : ∀ f ∈ a.xs, okFile f) :
   VC Try.prog 5 [.agg [.d (dFiles a)], .d (.str n)] (fun _ r => r = .d (.bool true)) := by
  refine VC.of s5 (by kernel_rfl) Try.func5 (by rfl) (by kernel_rfl) (by simp [Try.f5]) s5_ok fun B => ?_
  simp [Try.f5, dFiles, dSl]
  intro hn
  refine call_pure (v11 a 1048576 (by omega) (by omega) ha hx) rfl (by simp) rfl fun hs' hh' => ?_
  simp
  intro hpos
  have hw : (wFiles a.xs : Int) ≤ 1048576 := by
    apply Int.not_lt.1; intro hc; rw [szv_neg hc] at hpos; omega
  have hlen : a.xs.length ≤ 1048576 := by have : wFiles a.xs = a.xs.length + sumW wFile a.xs := rfl; omega
  refine call_some (v13 a hlen) rfl (by simp) fun n1 hs1 r1 h1 h2 h3 h4 => ?_
  obtain ⟨id1, rfl, h5, h6⟩ := h3
  simp [dFiles, dSl]
  refine call_pure (v16 ⟨id1, some 55, a.xs⟩ n hlen) rfl (by simp) rfl fun hs2 hh2 => ?_
  simp [dFiles, dSl]
  refine call_some (v13 a hlen) rfl (by simp) fun n2 hs3 r2 h1' h2' h3' h4' => ?_
  obtain ⟨id2, rfl, h5', h6'⟩ := h3'
  simp [dFiles, dSl]
  refine call_pure (v17 ⟨id2, some 55, a.xs⟩ n hlen) rfl (by simp) rfl fun hs4 hh4 => ?_
  simp [dFiles, dSl, s5_12]
  refine call_some (v13 a hlen) rfl (by simp) fun n3 hs5 r3 h1'' h2'' h3'' h4'' => ?_
  obtain ⟨id3, rfl, h5'', h6''⟩ := h3''
  simp [dFiles, dSl]
  refine call_pure (v15 ⟨id2, some 55, a.xs⟩ ⟨id3, some 55, a.xs⟩ hlen) rfl (by simp) rfl fun hs6 hh6 => ?_
  simp
end Go.Proofs.Ytfebikihnljjoaa
