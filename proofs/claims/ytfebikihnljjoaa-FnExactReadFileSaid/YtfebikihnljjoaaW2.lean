/-
  W2: a part of a proof of this seat: the value-level semantics of Go code without maps (Vs), its walk rules (Vt), the frame of a row (Vr), facts of types, schedules, walks. It holds of every program and state that its hypotheses name.
-/
import Derived.Test.YtfebikihnljjoaaW1
set_option linter.unusedSimpArgs false
set_option linter.unusedVariables false
namespace Go.Proofs.Ytfebikihnljjoaa
open Go.Vs Go.Proofs Go
set_option maxRecDepth 100000
set_option maxHeartbeats 1000000

theorem v11 (a : Sl FileT) (left : Int) (h0 : 0 ≤ left) (h1 : left ≤ 1048576) (ha : a.xs.length ≤ maxLen) (hx : ∀ f ∈ a.xs, okFile f) :
   VC Try.prog 11 [.agg [.d (dFiles a)], .d (.int .i64 left)] (fun _ r => r = .d (.int .i64 (szv left (wFiles a.xs)))) := by
  refine VC.of s11 (by kernel_rfl) Try.func11 (by rfl) (by kernel_rfl) (by simp [Try.f11]) s11_ok fun B => ?_
  simp (config := {contextual := true, maxSteps := 1000000}) [Try.f11, dFiles, dSl]
  refine call_pure (v31 a left h0 h1 ha hx) rfl (by simp) rfl fun hs' hh' => ?_
  simp (config := {contextual := true, maxSteps := 1000000})
  intro h
  by_cases hc : (wFiles a.xs : Int) ≤ left
  · rw [szv_pos hc] at h; omega
  · rw [szv_neg (by omega)]

theorem v32 (a : Sl FileT) (ha : a.xs.length ≤ 1048576) :
   VC Try.prog 32 [.d (dFiles a)] (fun n r => ∃ id, r = .d (dFiles ⟨id, some 55, a.xs⟩) ∧ (∀ g, id = some g → n ≤ g) ∧ (a.xs ≠ [] → id ≠ none)) := by
  refine VC.of s32 (by kernel_rfl) Try.func32 (by rfl) (by kernel_rfl) (by simp [Try.f32]) s32_ok fun B => ?_
  simp (config := {contextual := true, maxSteps := 1000000}) [Try.f32, dFiles, dSl]
  refine ⟨⟨by omega, by simp only [maxLen]; omega⟩, ?_⟩
  refine loop_rule (X := Nat) (fun i => i ≤ a.xs.length) (fun i => [(0, .d (.sl a.id a.T (a.xs.map cFile))), (3, .own 7 0 a.xs.length), (4, .d (.int .i64 i))]) (fun i => [(7, some (.row 55 2 (fill [.str [], .str []] (a.xs.map cFile) i)))]) (fun i => a.xs.length - i) 0 (by simp) (by simp) (by simp) ?_
  intro i hs t m hi hh
  simp (config := {contextual := true, maxSteps := 1000000}) [cFile]
  refine ⟨fun hlt => ?_, fun hge => ?_⟩
  · have hwi : IntKind.i64.wrap ((i : Int) + 1) = (i : Int) + 1 := wrap64_of (by omega) (by omega)
    refine call_pure (v53 a.xs[i]) rfl (by simp) rfl fun hs' hh' => ?_
    simp at hh'
    simp (config := {contextual := true, maxSteps := 1000000}) [hwi, hlt]
    refine back (i + 1) (by omega) (by omega) rfl (by simp; omega) (by simp) ?_
    have := fill_set (z := [.str [], .str []]) (l := a.xs.map cFile) (i := i) (by simpa using hlt) (by simp [hlt]; rfl)
    simp only [cFile] at this ⊢
    simp [this]
  · have hn : i = a.xs.length := by omega
    subst hn
    have hf : fill [.str [], .str []] (a.xs.map cFile) a.xs.length = a.xs.map cFile := fill_all (by simp)
    simp [hf]
    intro γ hs' h1 hg
    obtain ⟨q1, q2⟩ := gam_at hg (k := 7) (T := 55) (sz := 2) (es := a.xs.map cFile) (by simp)
    clear hg
    refine ⟨γ 7, ?_⟩
    exact ⟨⟨rfl, List.take_of_length_le (by simp)⟩, fun g hg => (q1 g hg).1, by simpa using q2⟩

theorem v33 (a b : Sl FileT) (ha : a.xs.length ≤ 1048576) :
   VC Try.prog 33 [.d (dFiles a), .d (dFiles b)] (fun _ r => r = .d (.bool (a.xs == b.xs))) := by
  refine VC.of s33 (by kernel_rfl) Try.func33 (by rfl) (by kernel_rfl) (by simp [Try.f33]) s33_ok fun B => ?_
  simp (config := {contextual := true, maxSteps := 1000000}) [Try.f33, dFiles, dSl]
  refine ⟨fun h e => h (by rw [e]), fun hl => ?_⟩
  have hl' : a.xs.length = b.xs.length := by omega
  refine loop_rule (X := Nat) (fun i => i ≤ a.xs.length ∧ a.xs.take i = b.xs.take i) (fun i => [(0, .d (.sl a.id a.T (a.xs.map cFile))), (1, .d (.sl b.id b.T (b.xs.map cFile))), (5, .d (.int .i64 i))]) (fun _ => []) (fun i => a.xs.length - i) 0 (by simp) (by simp) (by simp) ?_
  intro i hs t m hi hh
  simp (config := {contextual := true, maxSteps := 1000000}) [cFile, s33_6, hl']
  have hstep : ∀ h : i < b.xs.length, (a.xs[i] = b.xs[i] ↔ a.xs.take (i + 1) = b.xs.take (i + 1)) := by
    intro h
    rw [List.take_succ_eq_append_getElem (l := b.xs) h, List.take_succ_eq_append_getElem (l := a.xs) (by omega), hi.2]
    exact ⟨fun h => by rw [h], fun h => by simpa only [List.append_cancel_left_eq, List.cons.injEq, and_true] using h⟩
  refine ⟨fun hlt => ?_, fun hge => ?_⟩
  · refine call_pure (v54 a.xs[i] b.xs[i]) rfl (by simp) rfl fun hs' hh' => ?_
    have hwi : IntKind.i64.wrap ((i : Int) + 1) = (i : Int) + 1 := wrap64_of (by omega) (by omega)
    simp at hh'
    simp (config := {contextual := true, maxSteps := 1000000}) [hwi]
    refine ⟨fun hne he => hne (by simp [he]), fun heq => ?_⟩
    refine back (i + 1) ⟨by omega, (hstep hlt).1 heq⟩ (by omega) rfl (by simp; omega) (by simp) (by simp)
  · have h1 := hi.2
    rw [List.take_of_length_le (by omega), List.take_of_length_le (by omega)] at h1
    simp [h1]

theorem v13 (a : Sl FileT) (ha : a.xs.length ≤ 1048576) :
   VC Try.prog 13 [.agg [.d (dFiles a)]] (fun n r => ∃ id, r = .agg [.d (dFiles ⟨id, some 55, a.xs⟩)] ∧ (∀ g, id = some g → n ≤ g) ∧ (a.xs ≠ [] → id ≠ none)) := by
  refine VC.of s13 (by kernel_rfl) Try.func13 (by rfl) (by kernel_rfl) (by simp [Try.f13]) s13_ok fun B => ?_
  simp (config := {contextual := true, maxSteps := 1000000}) [Try.f13, dFiles, dSl]
  refine call_some (v32 a ha) rfl (by simp) fun n hs' r h1 h2 h3 h4 => ?_
  obtain ⟨id, rfl, h5, h6⟩ := h3
  simp at h1
  simp (config := {contextual := true, maxSteps := 1000000}) [dFiles, dSl]
  exact ⟨fun g hg => Nat.le_trans h1 (h5 g hg), by simpa using h6⟩

theorem v15 (a b : Sl FileT) (ha : a.xs.length ≤ 1048576) :
   VC Try.prog 15 [.agg [.d (dFiles a)], .agg [.d (dFiles b)]] (fun _ r => r = .d (.bool (a.xs == b.xs))) := by
  refine VC.of s15 (by kernel_rfl) Try.func15 (by rfl) (by kernel_rfl) (by simp [Try.f15]) s15_ok fun B => ?_
  simp (config := {contextual := true, maxSteps := 1000000}) [Try.f15, dFiles, dSl]
  refine call_pure (v33 a b ha) rfl (by simp) rfl fun hs' hh' => ?_
  simp (config := {contextual := true, maxSteps := 1000000})

/-- a disk's names rise, up to place i -/
def risesAt (l : List FileT) (j : Nat) : Bool := j == 0 || Op.bytesLess (l.getD (j - 1) default).1 (l.getD j default).1
def rising (l : List FileT) (i : Nat) : Bool := (List.range i).all (risesAt l)
theorem rising_succ (l : List FileT) (i : Nat) : rising l (i + 1) = (rising l i && risesAt l i) := by
  simp [rising, List.range_succ]
theorem rising_mono {l : List FileT} {i j : Nat} (h : rising l i = true) (hj : j ≤ i) : rising l j = true := by
  simp only [rising, List.all_eq_true, List.mem_range] at *
  exact fun x hx => h x (by omega)
theorem rising_no {l : List FileT} {i j : Nat} (h : risesAt l i = false) (hj : i < j) : rising l j = false := by
  apply Bool.eq_false_iff.2
  intro h'
  simp only [rising, List.all_eq_true, List.mem_range] at h'
  rw [h' i hj] at h
  cases h

theorem v12 (a : Sl FileT) (ha : a.xs.length ≤ 1048576) :
   VC Try.prog 12 [.agg [.d (dFiles a)]] (fun _ r => r = .d (.bool (rising a.xs a.xs.length))) := by
  refine VC.of s12 (by kernel_rfl) Try.func12 (by rfl) (by kernel_rfl) (by simp [Try.f12]) s12_ok fun B => ?_
  simp (config := {contextual := true, maxSteps := 1000000}) [Try.f12, dFiles, dSl]
  refine loop_rule (X := Nat) (fun i => 1 ≤ i ∧ i ≤ a.xs.length + 1 ∧ rising a.xs i = true) (fun i => [(1, .ptr 1 0 0), (3, .d (.int .i64 i))]) (fun _ => [(1, some (.box [.d (.sl a.id a.T (a.xs.map cFile))]))]) (fun i => a.xs.length + 1 - i) 1 (by simp [rising, risesAt]) (by simp) (by simp) ?_
  intro i hs t m hi hh
  have hi1 : i < a.xs.length → i - 1 < a.xs.length := by omega
  have hw1 : IntKind.i64.wrap ((i : Int) - 1) = ((i - 1 : Nat) : Int) := by rw [wrap64_of] <;> omega
  simp (config := {contextual := true, maxSteps := 1000000}) [cFile, s12_4, hw1, hi1]
  have hrs : ∀ h : i < a.xs.length, risesAt a.xs i = Op.bytesLess (a.xs[i - 1]'(by omega)).1 a.xs[i].1 := by
    intro h
    have h0 : (i == 0) = false := by simp; omega
    simp only [risesAt, h0, Bool.false_or]
    simp [List.getD, List.getElem?_eq_getElem h, List.getElem?_eq_getElem (hi1 h)]
  refine ⟨fun hlt => ⟨fun hf => ?_, fun ht => ?_⟩, fun hge => ?_⟩
  · exact rising_no (by rw [hrs hlt]; exact hf) hlt
  · have hwi : IntKind.i64.wrap ((i : Int) + 1) = (i : Int) + 1 := wrap64_of (by omega) (by omega)
    refine back (i + 1) ⟨by omega, by omega, ?_⟩ (by omega) rfl (by simp) (by simp [hwi]) (by simp)
    rw [rising_succ, hi.2.2, hrs hlt, ht]; rfl
  · exact rising_mono hi.2.2 hge
theorem v14 (a : Sl FileT) (ha : a.xs.length ≤ 1048576) :
   VC Try.prog 14 [.agg [.d (dFiles a)]] (fun _ r => r = .d (.bool (rising a.xs a.xs.length))) := by
  refine VC.of s14 (by kernel_rfl) Try.func14 (by rfl) (by kernel_rfl) (by simp [Try.f14]) s14_ok fun B => ?_
  simp (config := {contextual := true, maxSteps := 1000000}) [Try.f14, dFiles, dSl]
  refine loop_rule (X := Nat) (fun i => 1 ≤ i ∧ i ≤ a.xs.length + 1 ∧ rising a.xs i = true) (fun i => [(1, .ptr 1 0 0), (3, .d (.int .i64 i))]) (fun _ => [(1, some (.box [.d (.sl a.id a.T (a.xs.map cFile))]))]) (fun i => a.xs.length + 1 - i) 1 (by simp [rising, risesAt]) (by simp) (by simp) ?_
  intro i hs t m hi hh
  have hi1 : i < a.xs.length → i - 1 < a.xs.length := by omega
  have hw1 : IntKind.i64.wrap ((i : Int) - 1) = ((i - 1 : Nat) : Int) := by rw [wrap64_of] <;> omega
  simp (config := {contextual := true, maxSteps := 1000000}) [cFile, s14_4, hw1, hi1]
  have hrs : ∀ h : i < a.xs.length, risesAt a.xs i = Op.bytesLess (a.xs[i - 1]'(by omega)).1 a.xs[i].1 := by
    intro h
    have h0 : (i == 0) = false := by simp; omega
    simp only [risesAt, h0, Bool.false_or]
    simp [List.getD, List.getElem?_eq_getElem h, List.getElem?_eq_getElem (hi1 h)]
  refine ⟨fun hlt => ⟨fun hf => ?_, fun ht => ?_⟩, fun hge => ?_⟩
  · exact rising_no (by rw [hrs hlt]; exact hf) hlt
  · have hwi : IntKind.i64.wrap ((i : Int) + 1) = (i : Int) + 1 := wrap64_of (by omega) (by omega)
    refine back (i + 1) ⟨by omega, by omega, ?_⟩ (by omega) rfl (by simp) (by simp [hwi]) (by simp)
    rw [rising_succ, hi.2.2, hrs hlt, ht]; rfl
  · exact rising_mono hi.2.2 hge

end Go.Proofs.Ytfebikihnljjoaa
