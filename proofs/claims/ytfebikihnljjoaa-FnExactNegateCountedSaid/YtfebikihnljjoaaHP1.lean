/-
  HP1: a part of a proof of this seat: the value-level semantics of Go code without maps (Vs), its walk rules (Vt), the frame of a row (Vr), facts of types, schedules, walks. It holds of every program and state that its hypotheses name.
-/
import Derived.Test.YtfebikihnljjoaaH0
set_option linter.unusedSimpArgs false
set_option linter.unusedVariables false
namespace Go.Proofs.Ytfebikihnljjoaa
open Go.Vs Go.Proofs Go
set_option maxRecDepth 100000
set_option maxHeartbeats 1000000

theorem w_laws_szIntS (a : Sl (Int)) (left : Int) (h0 : 0 ≤ left) (h1 : left ≤ 1048576) (ha : okS okI a) :
   VC Try.prog 35 [.d (dSl cI a), .d (.int .i64 left)] (fun _ r => r = .d (.int .i64 (szv left (swS swI a)))) := by
  refine VC.of E s35 (by kernel_rfl) Try.func35 (by rfl) (by kernel_rfl) (by simp [Try.f35]) (by simp [Try.f35]) s35_ok fun B => ?_
  have ha1 := ha.1
  simp only [maxLen] at ha1
  have hw1 : IntKind.i64.wrap (left - (a.xs.length : Int)) = left - a.xs.length := wrap64_of (by omega) (by omega)
  have hwt : swS swI a = a.xs.length + sumW swI a.xs := rfl
  simp [Try.f35, dSl, hw1]
  have hz : sumW swI a.xs = 0 := by
    generalize a.xs = l
    induction l with
    | nil => rfl
    | cons b r ih => simp [swI, ih]
  refine ⟨fun h => ?_, fun h => ?_⟩
  · rw [szv_neg (by omega)]
  · rw [szv_pos (by omega)]; omega
theorem w_laws_eqIntS (a b : Sl (Int)) (ha : okS okI a) :
   VC Try.prog 43 [.d (dSl cI a), .d (dSl cI b)] (fun _ r => r = .d (.bool (plS plI a == plS plI b))) := by
  refine VC.of E s43 (by kernel_rfl) Try.func43 (by rfl) (by kernel_rfl) (by simp [Try.f43]) (by simp [Try.f43]) s43_ok fun B => ?_
  have ha1 := ha.1
  simp only [maxLen] at ha1
  simp [Try.f43, s43_6, dSl, plS]
  refine ⟨fun h e => h (by have := congrArg List.length e; simp at this; omega), fun hl => ?_⟩
  have hl' : a.xs.length = b.xs.length := by omega
  refine loop_rule (X := Nat) (fun i => i ≤ a.xs.length ∧ (a.xs.map plI).take i = (b.xs.map plI).take i) (fun i => [(0, .d (.sl a.id a.T (a.xs.map cI))), (1, .d (.sl b.id b.T (b.xs.map cI))), (5, .d (.int .i64 i))]) (fun _ => []) (fun i => a.xs.length - i) 0 (by simp) (by simp) (by simp) ?_
  intro i hs t m hi hh
  by_cases hlt : i < a.xs.length
  · have hwi := wr1 (i := i) (by omega)
    have hlb : i < b.xs.length := by omega
    have hst := eqm_step plI hlt hlb hi.2
    simp [cI, hlt, hlb, hwi, s43_6, ]
    simp only [plI] at hst
    refine ⟨fun hne he => hne (hst.2 (by rw [he])), fun heq => ?_⟩
    exact back (i + 1) ⟨by omega, hst.1 heq⟩ (by omega) rfl (by simp) (by simp) (by simp)
  · have := eq_all (a := a.xs.map plI) (b := b.xs.map plI) (by simpa using Nat.le_of_not_lt hlt) (by simpa using hl') hi.2
    have hlb : ¬ i < b.xs.length := by omega
    simp [hlt, hlb, this]
theorem w_laws_szIntSS (a : Sl (Sl (Int))) (left : Int) (h0 : 0 ≤ left) (h1 : left ≤ 1048576) (ha : okS (okS okI) a) :
   VC Try.prog 34 [.d (dSl (cS cI) a), .d (.int .i64 left)] (fun _ r => r = .d (.int .i64 (szv left (swS (swS swI) a)))) := by
  refine VC.of E s34 (by kernel_rfl) Try.func34 (by rfl) (by kernel_rfl) (by simp [Try.f34]) (by simp [Try.f34]) s34_ok fun B => ?_
  have ha1 := ha.1
  simp only [maxLen] at ha1
  have hw1 : IntKind.i64.wrap (left - (a.xs.length : Int)) = left - a.xs.length := wrap64_of (by omega) (by omega)
  have hwt : swS (swS swI) a = a.xs.length + sumW (swS swI) a.xs := rfl
  simp [Try.f34, dSl, hw1]
  refine ⟨fun h => ?_, fun h => ?_⟩
  · rw [szv_neg (by omega)]
  · refine loop_rule (X := Nat) (fun i => i ≤ a.xs.length ∧ 0 ≤ left - a.xs.length - sumW (swS swI) (a.xs.take i)) (fun i => [(0, .d (.sl a.id a.T (a.xs.map (cS cI)))), (1, .d (.int .i64 (left - a.xs.length - sumW (swS swI) (a.xs.take i)))), (5, .d (.int .i64 i))]) (fun _ => []) (fun i => a.xs.length - i) 0 ?_ ?_ (by simp) ?_
    · simp; omega
    · simp
    · intro i hs t m hi hh
      by_cases hlt : i < a.xs.length
      · simp [cS, hlt]
        refine call_pure (w_laws_szIntS a.xs[i] _ (by omega) (by omega) (ha.2 _ (List.getElem_mem _))) rfl (by simp) rfl fun hs' hh' => ?_
        have e1 := sumW_succ (swS swI) hlt
        have e2 := sumW_le (swS swI) a.xs (i + 1)
        have hwi := wr1 (i := i) (by omega)
        by_cases hc : (swS swI a.xs[i] : Int) ≤ left - a.xs.length - sumW (swS swI) (a.xs.take i)
        · rw [szv_pos hc]
          have hn : ¬ left - a.xs.length - sumW (swS swI) (a.xs.take i) - swS swI a.xs[i] < 0 := by omega
          simp [hwi, hn]
          refine back (i + 1) ⟨by omega, by omega⟩ (by omega) rfl (by simp at hh' ⊢; omega) ?_ (by simp)
          simp
          omega
        · rw [szv_neg (by omega)]
          simp
          rw [szv_neg (by omega)]
          all_goals exact fun h => absurd h (by decide)
      · have : i = a.xs.length := by omega
        subst this
        simp
        rw [szv_pos] <;> (simp at hi ⊢; omega)
theorem w_laws_eqIntSS (a b : Sl (Sl (Int))) (ha : okS (okS okI) a) :
   VC Try.prog 42 [.d (dSl (cS cI) a), .d (dSl (cS cI) b)] (fun _ r => r = .d (.bool (plS (plS plI) a == plS (plS plI) b))) := by
  refine VC.of E s42 (by kernel_rfl) Try.func42 (by rfl) (by kernel_rfl) (by simp [Try.f42]) (by simp [Try.f42]) s42_ok fun B => ?_
  have ha1 := ha.1
  simp only [maxLen] at ha1
  simp [Try.f42, s42_6, dSl, plS]
  refine ⟨fun h e => h (by have := congrArg List.length e; simp at this; omega), fun hl => ?_⟩
  have hl' : a.xs.length = b.xs.length := by omega
  refine loop_rule (X := Nat) (fun i => i ≤ a.xs.length ∧ (a.xs.map (plS plI)).take i = (b.xs.map (plS plI)).take i) (fun i => [(0, .d (.sl a.id a.T (a.xs.map (cS cI)))), (1, .d (.sl b.id b.T (b.xs.map (cS cI)))), (5, .d (.int .i64 i))]) (fun _ => []) (fun i => a.xs.length - i) 0 (by simp) (by simp) (by simp) ?_
  intro i hs t m hi hh
  by_cases hlt : i < a.xs.length
  · have hwi := wr1 (i := i) (by omega)
    have hlb : i < b.xs.length := by omega
    have hst := eqm_step (plS plI) hlt hlb hi.2
    simp [cS, hlt, hlb, s42_6, ]
    refine call_pure (w_laws_eqIntS a.xs[i] b.xs[i] (ha.2 _ (List.getElem_mem _))) rfl (by simp) rfl fun hs' hh' => ?_
    simp at hh'
    simp [hwi]
    refine ⟨fun hne he => hne (hst.2 (by rw [he])), fun heq => ?_⟩
    exact back (i + 1) ⟨by omega, hst.1 heq⟩ (by omega) rfl (by simp; omega) (by simp) (by simp)
  · have := eq_all (a := a.xs.map (plS plI)) (b := b.xs.map (plS plI)) (by simpa using Nat.le_of_not_lt hlt) (by simpa using hl') hi.2
    have hlb : ¬ i < b.xs.length := by omega
    simp [hlt, hlb, this]
theorem w_laws_szFile (a : File) (left : Int) (h0 : 0 ≤ left) (h1 : left ≤ 1048576) (ha : okFile a) :
   VC Try.prog 52 [.agg ((cFile a).map V.d), .d (.int .i64 left)] (fun _ r => r = .d (.int .i64 (szv left (swFile a)))) := by
  refine VC.of E s52 (by kernel_rfl) Try.func52 (by rfl) (by kernel_rfl) (by simp [Try.f52]) (by simp [Try.f52]) s52_ok fun B => ?_
  have hwt : swFile a = swStr a.name + swStr a.data := rfl
  have hc0 : (0 : Int) ≤ left := h0
  have hs0 : a.name.length ≤ 9223372036854775807 := ha.1
  have hw0 : IntKind.i64.wrap (left - (a.name.length : Int)) = left - a.name.length := wrap64_of (by omega) (by omega)
  have hq0 : swStr a.name = a.name.length := rfl
  simp [Try.f52, cFile, cStr, dSl, hw0]
  refine ⟨fun hneg => ?_, fun hpos => ?_⟩
  · rw [szv_neg (by omega)]
  · skip
    have hs1 : a.data.length ≤ 9223372036854775807 := ha.2
    have hw1 : IntKind.i64.wrap (left - a.name.length - (a.data.length : Int)) = left - a.name.length - a.data.length := wrap64_of (by omega) (by omega)
    have hq1 : swStr a.data = a.data.length := rfl
    rw [hw1]
    refine ⟨fun hneg => ?_, fun hpos => ?_⟩
    · rw [szv_neg (by omega)]
    · skip
      rw [szv_pos (by omega)]; omega
theorem w_laws_eqFile (a b : File) (ha : okFile a) :
   VC Try.prog 54 [.agg ((cFile a).map V.d), .agg ((cFile b).map V.d)] (fun _ r => r = .d (.bool (plFile a == plFile b))) := by
  refine VC.of E s54 (by kernel_rfl) Try.func54 (by rfl) (by kernel_rfl) (by simp [Try.f54]) (by simp [Try.f54]) s54_ok fun B => ?_
  simp [Try.f54, cFile, cStr, dSl, plFile, plI, plStr]
  by_cases e0 : a.name = b.name <;> by_cases e1 : a.data = b.data <;> simp [e0, e1]
theorem w_laws_szFileS (a : Sl (File)) (left : Int) (h0 : 0 ≤ left) (h1 : left ≤ 1048576) (ha : okS okFile a) :
   VC Try.prog 31 [.d (dSl cFile a), .d (.int .i64 left)] (fun _ r => r = .d (.int .i64 (szv left (swS swFile a)))) := by
  refine VC.of E s31 (by kernel_rfl) Try.func31 (by rfl) (by kernel_rfl) (by simp [Try.f31]) (by simp [Try.f31]) s31_ok fun B => ?_
  have ha1 := ha.1
  simp only [maxLen] at ha1
  have hw1 : IntKind.i64.wrap (left - (a.xs.length : Int)) = left - a.xs.length := wrap64_of (by omega) (by omega)
  have hwt : swS swFile a = a.xs.length + sumW swFile a.xs := rfl
  simp [Try.f31, dSl, hw1]
  refine ⟨fun h => ?_, fun h => ?_⟩
  · rw [szv_neg (by omega)]
  · refine loop_rule (X := Nat) (fun i => i ≤ a.xs.length ∧ 0 ≤ left - a.xs.length - sumW swFile (a.xs.take i)) (fun i => [(0, .d (.sl a.id a.T (a.xs.map cFile))), (1, .d (.int .i64 (left - a.xs.length - sumW swFile (a.xs.take i)))), (5, .d (.int .i64 i))]) (fun _ => []) (fun i => a.xs.length - i) 0 ?_ ?_ (by simp) ?_
    · simp; omega
    · simp
    · intro i hs t m hi hh
      by_cases hlt : i < a.xs.length
      · simp [cFile, cStr, hlt]
        refine call_pure (w_laws_szFile a.xs[i] _ (by omega) (by omega) (ha.2 _ (List.getElem_mem _))) rfl (by simp) rfl fun hs' hh' => ?_
        have e1 := sumW_succ swFile hlt
        have e2 := sumW_le swFile a.xs (i + 1)
        have hwi := wr1 (i := i) (by omega)
        by_cases hc : (swFile a.xs[i] : Int) ≤ left - a.xs.length - sumW swFile (a.xs.take i)
        · rw [szv_pos hc]
          have hn : ¬ left - a.xs.length - sumW swFile (a.xs.take i) - swFile a.xs[i] < 0 := by omega
          simp [hwi, hn]
          refine back (i + 1) ⟨by omega, by omega⟩ (by omega) rfl (by simp at hh' ⊢; omega) ?_ (by simp)
          simp
          omega
        · rw [szv_neg (by omega)]
          simp
          rw [szv_neg (by omega)]
          all_goals exact fun h => absurd h (by decide)
      · have : i = a.xs.length := by omega
        subst this
        simp
        rw [szv_pos] <;> (simp at hi ⊢; omega)
theorem w_laws_eqFileS (a b : Sl (File)) (ha : okS okFile a) :
   VC Try.prog 33 [.d (dSl cFile a), .d (dSl cFile b)] (fun _ r => r = .d (.bool (plS plFile a == plS plFile b))) := by
  refine VC.of E s33 (by kernel_rfl) Try.func33 (by rfl) (by kernel_rfl) (by simp [Try.f33]) (by simp [Try.f33]) s33_ok fun B => ?_
  have ha1 := ha.1
  simp only [maxLen] at ha1
  simp [Try.f33, s33_6, dSl, plS]
  refine ⟨fun h e => h (by have := congrArg List.length e; simp at this; omega), fun hl => ?_⟩
  have hl' : a.xs.length = b.xs.length := by omega
  refine loop_rule (X := Nat) (fun i => i ≤ a.xs.length ∧ (a.xs.map plFile).take i = (b.xs.map plFile).take i) (fun i => [(0, .d (.sl a.id a.T (a.xs.map cFile))), (1, .d (.sl b.id b.T (b.xs.map cFile))), (5, .d (.int .i64 i))]) (fun _ => []) (fun i => a.xs.length - i) 0 (by simp) (by simp) (by simp) ?_
  intro i hs t m hi hh
  by_cases hlt : i < a.xs.length
  · have hwi := wr1 (i := i) (by omega)
    have hlb : i < b.xs.length := by omega
    have hst := eqm_step plFile hlt hlb hi.2
    simp [cFile, cStr, hlt, hlb, s33_6, ]
    refine call_pure (w_laws_eqFile a.xs[i] b.xs[i] (ha.2 _ (List.getElem_mem _))) rfl (by simp) rfl fun hs' hh' => ?_
    simp at hh'
    simp [hwi]
    refine ⟨fun hne he => hne (hst.2 (by rw [he])), fun heq => ?_⟩
    exact back (i + 1) ⟨by omega, hst.1 heq⟩ (by omega) rfl (by simp; omega) (by simp) (by simp)
  · have := eq_all (a := a.xs.map plFile) (b := b.xs.map plFile) (by simpa using Nat.le_of_not_lt hlt) (by simpa using hl') hi.2
    have hlb : ¬ i < b.xs.length := by omega
    simp [hlt, hlb, this]
theorem w_laws_szDisk (a : Disk) (left : Int) (h0 : 0 ≤ left) (h1 : left ≤ 1048576) (ha : okDisk a) :
   VC Try.prog 11 [.agg ((cDisk a).map V.d), .d (.int .i64 left)] (fun _ r => r = .d (.int .i64 (szv left (swDisk a)))) := by
  refine VC.of E s11 (by kernel_rfl) Try.func11 (by rfl) (by kernel_rfl) (by simp [Try.f11]) (by simp [Try.f11]) s11_ok fun B => ?_
  have hwt : swDisk a = swS swFile a.files := rfl
  have hc0 : (0 : Int) ≤ left := h0
  simp [Try.f11, cDisk, cS, dSl]
  refine call_pure (w_laws_szFileS a.files _ (by omega) (by omega) ha) rfl (by simp) rfl fun hs' hh' => ?_
  by_cases hb0 : (swS swFile a.files : Int) ≤ left
  · rw [szv_pos hb0]
    have hn0 : ¬ left - swS swFile a.files < 0 := by omega
    simp [hn0]
    rw [szv_pos (by omega)]; omega
  · rw [szv_neg (by omega)]
    simp
    try rw [szv_neg (by omega)]
    all_goals exact fun h => absurd h (by decide)
theorem w_laws_eqDisk (a b : Disk) (ha : okDisk a) :
   VC Try.prog 15 [.agg ((cDisk a).map V.d), .agg ((cDisk b).map V.d)] (fun _ r => r = .d (.bool (plDisk a == plDisk b))) := by
  refine VC.of E s15 (by kernel_rfl) Try.func15 (by rfl) (by kernel_rfl) (by simp [Try.f15]) (by simp [Try.f15]) s15_ok fun B => ?_
  simp [Try.f15, cDisk, cS, dSl, plDisk, plI, plStr]
  refine call_pure (w_laws_eqFileS a.files b.files ha) rfl (by simp) rfl fun hs0 hh0 => ?_
  by_cases e0 : plS plFile a.files = plS plFile b.files
  case neg => simp [e0]
  simp [e0]
theorem w_laws_szCountedRelation (a : Cnt) (left : Int) (h0 : 0 ≤ left) (h1 : left ≤ 1048576) (ha : okCnt a) :
   VC Try.prog 18 [.agg ((cCnt a).map V.d), .d (.int .i64 left)] (fun _ r => r = .d (.int .i64 (szv left (swCnt a)))) := by
  refine VC.of E s18 (by kernel_rfl) Try.func18 (by rfl) (by kernel_rfl) (by simp [Try.f18]) (by simp [Try.f18]) s18_ok fun B => ?_
  have hwt : swCnt a = swS (swS swI) a.rows + swS swI a.cs := rfl
  have hc0 : (0 : Int) ≤ left := h0
  simp [Try.f18, cCnt, cI, cS, dSl]
  refine call_pure (w_laws_szIntSS a.rows _ (by omega) (by omega) ha.2.1) rfl (by simp) rfl fun hs' hh' => ?_
  by_cases hb0 : (swS (swS swI) a.rows : Int) ≤ left
  · rw [szv_pos hb0]
    have hn0 : ¬ left - swS (swS swI) a.rows < 0 := by omega
    simp [hn0]
    refine call_pure (w_laws_szIntS a.cs _ (by omega) (by omega) ha.2.2) rfl (by simp) rfl fun hs' hh' => ?_
    by_cases hb1 : (swS swI a.cs : Int) ≤ left - swS (swS swI) a.rows
    · rw [szv_pos hb1]
      have hn1 : ¬ left - swS (swS swI) a.rows - swS swI a.cs < 0 := by omega
      simp [hn1]
      rw [szv_pos (by omega)]; omega
    · rw [szv_neg (by omega)]
      simp
      try rw [szv_neg (by omega)]
      all_goals exact fun h => absurd h (by decide)
  · rw [szv_neg (by omega)]
    simp
    try rw [szv_neg (by omega)]
    all_goals exact fun h => absurd h (by decide)
theorem w_laws_eqCountedRelation (a b : Cnt) (ha : okCnt a) :
   VC Try.prog 22 [.agg ((cCnt a).map V.d), .agg ((cCnt b).map V.d)] (fun _ r => r = .d (.bool (plCnt a == plCnt b))) := by
  refine VC.of E s22 (by kernel_rfl) Try.func22 (by rfl) (by kernel_rfl) (by simp [Try.f22]) (by simp [Try.f22]) s22_ok fun B => ?_
  simp [Try.f22, cCnt, cI, cS, dSl, plCnt, plI, plStr]
  by_cases e0 : a.ar = b.ar
  case neg => simp [e0]
  simp [e0]
  refine call_pure (w_laws_eqIntSS a.rows b.rows ha.2.1) rfl (by simp) rfl fun hs1 hh1 => ?_
  by_cases e1 : plS (plS plI) a.rows = plS (plS plI) b.rows
  case neg => simp [e1]
  simp [e1]
  refine call_pure (w_laws_eqIntS a.cs b.cs ha.2.2) rfl (by simp) rfl fun hs2 hh2 => ?_
  by_cases e2 : plS plI a.cs = plS plI b.cs
  case neg => simp [e2]
  simp [e2]

end Go.Proofs.Ytfebikihnljjoaa
