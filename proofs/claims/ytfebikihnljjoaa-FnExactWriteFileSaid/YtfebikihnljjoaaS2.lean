/-
  S2: a part of a proof of this seat: the value-level semantics of Go code without maps (Vs), its walk rules (Vt), the frame of a row (Vr), facts of types, schedules, walks. It holds of every program and state that its hypotheses name.
-/
import Derived.Test.YtfebikihnljjoaaHP3
import Derived.Test.YtfebikihnljjoaaPl1
set_option linter.unusedSimpArgs false
set_option linter.unusedVariables false
namespace Go.Proofs.Ytfebikihnljjoaa
open Go.Vs Go.Proofs Go
set_option maxRecDepth 100000
set_option maxHeartbeats 1000000

theorem w_spec_WriteFile (a : Disk) (nm d : List UInt8) (ha : okDisk a) (hn : okStr nm) (hd : okStr d) (hl : a.files.xs.length ≤ 1048576) :
   VC Try.prog 23 [.agg ((cDisk a).map V.d), .d (.str nm), .d (.str d)] (fun n r => ∃ y : Disk, r = .agg ((cDisk y).map V.d) ∧ plDisk y = (writeFile a.files.xs nm d).map plFile ∧ okDisk y ∧ Good (cDisk y) (whDisk y) n) := by
  refine VC.of E s23 (by kernel_rfl) Try.func23 (by rfl) (by kernel_rfl) (by simp [Try.f23]) (by simp [Try.f23]) s23_ok fun B => ?_
  simp [Try.f23, cDisk, cS, dSl]
  have ha1 := hl
  refine loop_ruleL (X := Nat) (fun i _ => i ≤ a.files.xs.length)
    (fun i => [(1, .d (.str nm)), (2, .d (.str d)), (3, .ptr 3 0 0), (6, .ptr 6 0 0), (7, .ptr 7 0 0), (8, .d (.bool (wfL nm d (a.files.xs.take i)).1)), (9, .d (.int .i64 i))])
    (fun i => [(3, some (.box [.d (.sl a.files.id a.files.T (a.files.xs.map cFile))])), (6, some (.box [.d (.sl none none [])])), (7, some (.box [.own 38 0 (wfL nm d (a.files.xs.take i)).2.length])), (38, some (.row 55 2 ((wfL nm d (a.files.xs.take i)).2.map cFile)))])
    (fun i => a.files.xs.length - i) ?_ ?_
  · refine (lead_box 7 0 38 55 2 [.d (.sl none none [])] (by omega) (by omega) (by omega) (by simp) rfl).bind ?_
    rintro _ rfl
    refine Lead.of ⟨0, by simp, rfl, rfl, Nat.le_refl _, ?_, ?_⟩
    · simp [wfL]
    · simp [wfL]
  · intro i hs t m hi hh
    by_cases hlt : i < a.files.xs.length
    · have hwi := wr1 (i := i) (by omega)
      have hst := wf_step (nm := nm) (d := d) hlt
      have hlen := wf_len nm d (a.files.xs.take i)
      have htl : (a.files.xs.take i).length = i := by simp; omega
      rw [htl] at hlen
      generalize hg : wfL nm d (a.files.xs.take i) = s at hst hlen
      obtain ⟨b, o⟩ := s
      simp only [wfStep] at hst
      have hL1 : LenOk 32 (o.length + 1) := ⟨by cases b <;> simp at hlen <;> omega, by simp only [maxLen]; cases b <;> simp at hlen <;> omega⟩
      have hL2 : LenOk 32 (o.length + 1 + 1) := ⟨by cases b <;> simp at hlen <;> omega, by simp only [maxLen]; cases b <;> simp at hlen <;> omega⟩
      by_cases hne : a.files.xs[i].name = nm <;> cases hbl : Op.bytesLess a.files.xs[i].name nm <;> (try simp only [hne] at hbl) <;> cases b <;> simp [hbl, hne] at hst <;> simp [hlt, cFile, cStr, hg, hbl, hne, hL1, hL2, hwi]
      all_goals
        refine back2 (i + 1) (by omega) (by omega) rfl (by simp <;> omega) ?_ ?_ <;> simp [hst, cFile, cStr, hne]
    · have hn' : i = a.files.xs.length := by omega
      subst hn'
      have hlen := wf_len nm d a.files.xs
      have hwf : writeFile a.files.xs nm d = if (wfL nm d a.files.xs).1 then (wfL nm d a.files.xs).2 else (wfL nm d a.files.xs).2 ++ [⟨nm, d⟩] := rfl
      generalize hg : wfL nm d a.files.xs = s at hlen hwf
      obtain ⟨b, o⟩ := s
      have hL1 : LenOk 32 (o.length + 1) := ⟨by cases b <;> simp at hlen <;> omega, by simp only [maxLen]; cases b <;> simp at hlen <;> omega⟩
      have gd : ∀ (γ : Nat → Option Nat) (hs' : Nat) (σ : St) (l : List File), σ.B = B → Gam σ γ hs' → σ.m 38 = some (.row 55 2 (l.map cFile)) → Good (cDisk ⟨⟨γ 38, some (55, 2), l⟩⟩) (whDisk ⟨⟨γ 38, some (55, 2), l⟩⟩) B := by
        intro γ hs' σ l hB hg hm
        obtain ⟨q1, q2⟩ := gam_at hg hm
        exact good_row (fun g h => hB ▸ (q1 g h).1) (by simpa using q2) (gam_row hg hm) (by simp) (fun f _ => ⟨trivial, trivial⟩)
      cases b
      · simp [hg, hL1]
        intro γ hs' h1 h2
        refine ⟨⟨⟨γ 38, some (55, 2), o ++ [⟨nm, d⟩]⟩⟩, ⟨rfl, rfl, ?_⟩, by simp [hwf, plDisk, plS], ⟨by simp only [maxLen]; show (o ++ [_]).length ≤ _; simp at hlen ⊢; omega, fun f hf => ok_writeFile hn hd ha.2 f (by simp [hwf]; simpa using hf)⟩, ?_⟩
        · simp [cFile, cStr, List.take_of_length_le]
        · exact gd γ hs' _ _ rfl h2 (by simp [cFile, cStr])
      · simp [hg]
        intro γ hs' h1 h2
        refine ⟨⟨⟨γ 38, some (55, 2), o⟩⟩, ⟨rfl, rfl, ?_⟩, by simp [hwf, plDisk, plS], ⟨by simp only [maxLen]; show o.length ≤ _; simp at hlen; omega, fun f hf => ok_writeFile hn hd ha.2 f (by simp [hwf]; exact hf)⟩, ?_⟩
        · simp [List.take_of_length_le]
        · exact gd γ hs' _ _ rfl h2 (by simp)

end Go.Proofs.Ytfebikihnljjoaa
