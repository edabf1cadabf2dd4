/-
  W10: a part of a proof of this seat: the value-level semantics of Go code without maps (Vs), its walk rules (Vt), the frame of a row (Vr), facts of types, schedules, walks. It holds of every program and state that its hypotheses name.
-/
import Derived.Test.YtfebikihnljjoaaW9
set_option linter.unusedSimpArgs false
set_option linter.unusedVariables false
namespace Go.Proofs.Ytfebikihnljjoaa
open Go.Vs Go.Proofs Go
set_option maxRecDepth 100000
set_option maxHeartbeats 1000000

theorem v20 (a : Cnt) (ha : small a) :
   VC Try.prog 20 [.agg [.d (.int .i64 a.ar), .d (dRows a.rows), .d (dInts a.cs)]] (fun _ r => ∃ b : Cnt, r = .agg [.d (.int .i64 b.ar), .d (dRows b.rows), .d (dInts b.cs)] ∧ b.val = a.val) := by
  refine VC.of s20 (by kernel_rfl) Try.func20 (by rfl) (by kernel_rfl) (by simp [Try.f20]) s20_ok fun B => ?_
  simp [Try.f20]
  refine call_some (v38 a.rows ha.1 ha.2.1) rfl (by simp) fun n hs' r h1 h2 h3 h4 => ?_
  obtain ⟨b, rfl, hb⟩ := h3
  simp
  refine call_some (v39 a.cs ha.2.2) rfl (by simp) fun n2 hs2 r2 h5 h6 h7 h8 => ?_
  obtain ⟨id, rfl, h9, h10⟩ := h7
  simp
  exact ⟨⟨a.ar, b, ⟨id, some 3, a.cs.xs⟩⟩, by simp [Cnt.val, hb]⟩

theorem v22 (a b : Cnt) (ha : small a) :
   VC Try.prog 22 [.agg [.d (.int .i64 a.ar), .d (dRows a.rows), .d (dInts a.cs)], .agg [.d (.int .i64 b.ar), .d (dRows b.rows), .d (dInts b.cs)]] (fun _ r => r = .d (.bool (a.val == b.val))) := by
  refine VC.of s22 (by kernel_rfl) Try.func22 (by rfl) (by kernel_rfl) (by simp [Try.f22]) s22_ok fun B => ?_
  simp [Try.f22]
  refine ⟨fun h e => h (by simpa [Cnt.val] using congrArg (·.1) e), fun h => ?_⟩
  refine call_pure (v42 a.rows b.rows ha.1 ha.2.1) rfl (by simp) rfl fun hs' hh' => ?_
  simp
  refine ⟨fun h e => h (by simpa [Cnt.val] using congrArg (·.2.1) e), fun h2 => ?_⟩
  refine call_pure (v43 a.cs b.cs ha.2.2) rfl (by simp) rfl fun hs2 hh2 => ?_
  simp
  exact ⟨fun h e => h (by simpa [Cnt.val] using congrArg (·.2.2) e), fun h3 => by simp [Cnt.val, h, h2, h3]⟩

theorem v21 (a b : Cnt) (ha : small a) :
   VC Try.prog 21 [.agg [.d (.int .i64 a.ar), .d (dRows a.rows), .d (dInts a.cs)], .agg [.d (.int .i64 b.ar), .d (dRows b.rows), .d (dInts b.cs)]] (fun _ r => r = .d (.bool (a.val == b.val))) := by
  refine VC.of s21 (by kernel_rfl) Try.func21 (by rfl) (by kernel_rfl) (by simp [Try.f21]) s21_ok fun B => ?_
  by_cases h : a.ar = b.ar
  · simp [Try.f21, h]
    refine call_pure (v40 a.rows b.rows ha.1 ha.2.1) rfl (by simp) rfl fun hs' hh' => ?_
    by_cases h2 : a.rows.xs.map (·.xs) = b.rows.xs.map (·.xs)
    · simp [h2]
      refine call_pure (v41 a.cs b.cs ha.2.2) rfl (by simp) rfl fun hs2 hh2 => ?_
      simp [Cnt.val, h, h2]
      rw [Bool.eq_iff_iff]; simp
    · simp [h2, Cnt.val]
  · simp [Try.f21, h, Cnt.val]

theorem v19 (a b : Cnt) (ha : small a) (hb : small b) :
   VC Try.prog 19 [.agg [.d (.int .i64 a.ar), .d (dRows a.rows), .d (dInts a.cs)], .agg [.d (.int .i64 b.ar), .d (dRows b.rows), .d (dInts b.cs)]] (fun _ r => r = .d (.bool (a.val == b.val))) := by
  refine VC.of s19 (by kernel_rfl) Try.func19 (by rfl) (by kernel_rfl) (by simp [Try.f19]) s19_ok fun B => ?_
  by_cases h : a.ar = b.ar
  · simp [Try.f19, h]
    refine call_pure (v36 a.rows b.rows 0 0 ha.1 ha.2.1 hb.2.1) rfl (by simp) rfl fun hs' hh' => ?_
    by_cases h2 : a.rows.xs.map (·.xs) = b.rows.xs.map (·.xs)
    · simp [h2]
      refine call_pure (v37 a.cs b.cs ha.2.2 hb.2.2) rfl (by simp) rfl fun hs2 hh2 => ?_
      simp [Cnt.val, h, h2]
      rw [Bool.eq_iff_iff]; simp [cmpL_zero]
    · simp [h2, Cnt.val]
  · simp [Try.f19, h, Cnt.val]

theorem small_of {a : Cnt} (h : wCnt a ≤ 1048576) : small a := by
  have h1 : wCnt a = a.rows.xs.length + sumW (fun r => wInts r.xs) a.rows.xs + a.cs.xs.length := rfl
  refine ⟨by omega, fun r hr => ?_, by omega⟩
  have h2 := sumW_mem (fun r : Ints => wInts r.xs) hr
  have h3 : wInts r.xs = r.xs.length := rfl
  omega
theorem small_val {a b : Cnt} (h : b.val = a.val) (ha : small a) : small b := by
  simp only [Cnt.val, Prod.mk.injEq] at h
  refine ⟨?_, fun r hr => ?_, by rw [h.2.2]; exact ha.2.2⟩
  · have := congrArg List.length h.2.1
    simp at this
    have := ha.1
    omega
  · have : r.xs ∈ a.rows.xs.map (·.xs) := by rw [← h.2.1]; exact List.mem_map_of_mem hr
    obtain ⟨r', hr', he⟩ := List.mem_map.1 this
    have := ha.2.1 r' hr'
    rw [← he]
    exact this

theorem v6 (a b : Cnt) (ha : okCnt a) (hb : okCnt b) :
   VC Try.prog 6 [.agg [.d (.int .i64 a.ar), .d (dRows a.rows), .d (dInts a.cs)], .agg [.d (.int .i64 b.ar), .d (dRows b.rows), .d (dInts b.cs)]] (fun _ r => r = .d (.bool true)) := by
  refine VC.of s6 (by kernel_rfl) Try.func6 (by rfl) (by kernel_rfl) (by simp [Try.f6]) s6_ok fun B => ?_
  simp [Try.f6]
  refine call_pure (v18 a 1048576 (by omega) (by omega) ha) rfl (by simp) rfl fun hs1 hh1 => ?_
  simp
  intro hp1
  have hw1 : (wCnt a : Int) ≤ 1048576 := by apply Int.not_lt.1; intro hc; rw [szv_neg hc] at hp1; omega
  refine call_pure (v18 b (szv 1048576 (wCnt a)) hp1 (by rw [szv_pos hw1]; omega) hb) rfl (by simp) rfl fun hs2 hh2 => ?_
  simp
  intro hp2
  have hw2 : (wCnt b : Int) ≤ 1048576 := by
    rw [szv_pos hw1] at hp2
    apply Int.not_lt.1; intro hc; rw [szv_neg (by omega)] at hp2; omega
  have sa : small a := small_of (by omega)
  have sb : small b := small_of (by omega)
  simp [s6_8]
  refine call_some (v20 a sa) rfl (by simp) fun n3 hs3 r3 h31 h32 h33 h34 => ?_
  obtain ⟨a1, rfl, e3⟩ := h33
  simp
  refine call_some (v20 b sb) rfl (by simp) fun n4 hs4 r4 h41 h42 h43 h44 => ?_
  obtain ⟨b1, rfl, e4⟩ := h43
  simp
  refine call_pure (v19 a1 b1 (small_val e3 sa) (small_val e4 sb)) rfl (by simp) rfl fun hs5 hh5 => ?_
  simp
  refine call_some (v20 a sa) rfl (by simp) fun n6 hs6 r6 h61 h62 h63 h64 => ?_
  obtain ⟨a2, rfl, e6⟩ := h63
  simp
  refine call_some (v20 b sb) rfl (by simp) fun n7 hs7 r7 h71 h72 h73 h74 => ?_
  obtain ⟨b2, rfl, e7⟩ := h73
  simp
  refine call_pure (v21 a2 b2 (small_val e6 sa)) rfl (by simp) rfl fun hs8 hh8 => ?_
  simp [e3, e4, e6, e7, s6_14]
  refine call_some (v20 a sa) rfl (by simp) fun n9 hs9 r9 h91 h92 h93 h94 => ?_
  obtain ⟨a3, rfl, e9⟩ := h93
  simp
  refine call_pure (v22 a2 a3 (small_val e6 sa)) rfl (by simp) rfl fun hs10 hh10 => ?_
  simp [e6, e9, s6_16]
  refine call_some (v20 b sb) rfl (by simp) fun n11 hs11 r11 h111 h112 h113 h114 => ?_
  obtain ⟨b3, rfl, e11⟩ := h113
  simp
  refine call_pure (v22 b2 b3 (small_val e7 sb)) rfl (by simp) rfl fun hs12 hh12 => ?_
  simp [e7, e11]
end Go.Proofs.Ytfebikihnljjoaa
