/-
  Q1B2: a part of a proof of this seat: the value-level semantics of Go code without maps, its walk rules, the frame of a row, facts of types, schedules, walks, plain lemmas (G9 G10 E1 K1 K2 K3 K4 K5 K13 K14 K15 K16 K17 K18 K20 K19 U1 U2 U3 U4 U5 LU1 LU2 LU3). It holds of every program and state that its hypotheses name.
-/
import Derived.Test.YtepiehnhajnebaaQ1B1
set_option linter.unusedSimpArgs false
set_option linter.unusedVariables false
set_option linter.unnecessarySimpa false
namespace Go.Proofs.Ytepiehnhajnebaa
open Go.Vs Go.Proofs Go
set_option maxRecDepth 100000
set_option maxHeartbeats 1000000

section
attribute [local simp] plI_id plStr_id map_plI map_plStr pS cP eDisk
theorem t_impl_CommitDatabase (K : Disk) (d : Db) (n : Int) (k : List PFile) (hKk : plDisk K = ⟨k⟩) (hd : okDb d) (hk : ∀ f ∈ k, fOk f) (hkl : k.length ≤ 1000000000) : VC Try.prog 24 [.agg ((cDisk K).map V.d), .agg ((cDb d).map V.d), .d (.int .i64 n)]
   (fun m r => ∃ y : Disk, r = .tup [.agg ((cDisk y).map V.d), .d (.bool (comB k (plDb d) n))] ∧ plDisk y = ⟨comP k (plDb d) n⟩ ∧ okDisk y ∧ Good (cDisk y) (whDisk y) m) := by
  refine VC.of E s24 (by kernel_rfl) Try.func24 (by rfl) (by kernel_rfl) (by simp [Try.f24]) (by simp [Try.f24]) s24_ok fun B => ?_
  have hkd : ∀ f ∈ k, f.data.length ≤ 1000000000 := fun f hf => (hk f hf).2
  have hnle := newF_le k 99
  have hvw : IntKind.i64.wrap ((newV k : Int) + 1) = ((newV k + 1 : Nat) : Int) := by rw [wrap64_of (by simp only [newV]; omega) (by simp only [newV]; omega)]; simp
  have hvz : inZ ((newV k + 1 : Nat) : Int) := by simp only [inZ, newV]; omega
  have hdl := decZ_len hvz
  have hfl := verFs_len (plDb d) ((newV k + 1 : Nat) : Int)
  have hfo := verFs_ok (d := plDb d) hvz
  have hG : comG k (plDb d) = (decide (verFs (plDb d) ((newV k + 1 : Nat) : Int) ≠ []) && dskOk k) := rfl
  have hP : comP k (plDb d) n = if comG k (plDb d) then wrAll (wout k (hdNm ((newV k + 1 : Nat) : Int))) ((verFs (plDb d) ((newV k + 1 : Nat) : Int)).take n.toNat) else k := rfl
  have hB : comB k (plDb d) n = (comG k (plDb d) && decide (((verFs (plDb d) ((newV k + 1 : Nat) : Int)).length : Int) ≤ n)) := rfl
  have hVF := t_impl_VersionFiles d ((newV k + 1 : Nat) : Int) hd
  have hrK := rp_dsk hKk
  have heK := er_dsk hKk
  obtain ⟨⟨Kid, KT, Kx⟩⟩ := K
  obtain ⟨⟨did, dT, dx⟩⟩ := d
  simp only at heK
  obtain ⟨P, hPe⟩ : ∃ P, P = plDb ⟨⟨did, dT, dx⟩⟩ := ⟨_, rfl⟩
  rw [← hPe] at hfl hfo hG hP hB hVF ⊢
  have copy : ∀ (hh : comG k P = false), VC Try.prog 48 [.agg ((cDisk ⟨⟨Kid, KT, Kx⟩⟩).map V.d)] (fun m v => ∃ y : Disk, v = .agg ((cDisk y).map V.d) ∧ plDisk y = ⟨comP k P n⟩ ∧ okDisk y ∧ Good (cDisk y) (whDisk y) m) := fun hh => by
    have h := (e_impl_copyDisk k hk hkl).er (As := [.agg ((cDisk ⟨⟨Kid, KT, Kx⟩⟩).map V.d)]) (by simp only [rpL, hrK])
    rw [hP, if_neg (by rw [hh]; simp)]
    exact h
  simp [Try.f24, s24_5, s24_5, cDisk, cDb, cS, dSl]
  refine call_f (w_impl_NewestVersion k hkd) (by simp [heK]) rfl fun hs1 hh1 => ?_
  simp at hh1
  simp [hvw, s24_5, ]
  refine call_some hVF (by simp [cDb, cS, dSl]) (by simp) fun n2 hs2 r2 hn2 hm2 hp2 hr2 => ?_
  obtain ⟨⟨yid, yT, yf⟩, rfl, py, ky, Gy⟩ := hp2
  simp at hn2
  clear hr2 Gy
  obtain ⟨u, hu⟩ : ∃ u : Int, u = ((newV k + 1 : Nat) : Int) := ⟨_, rfl⟩
  rw [← hu] at hvw hvz hfl hfo hG hP hB py hdl
  obtain ⟨fs, hfs⟩ : ∃ fs, fs = verFs P u := ⟨_, rfl⟩
  rw [← hfs] at hfl hfo hG hP hB py
  have hyf : yf.map plFile = fs := py
  have hfn : yf.length = fs.length := by rw [← hyf]; simp
  by_cases hf : fs = []
  · have hg : comG k P = false := by rw [hG]; simp [hf]
    have hy0 : yf = [] := by rw [hf] at hfn; simpa using hfn
    rw [hg, Bool.false_and] at hB
    simp [hy0, dSl, s24_5, ]
    refine call_some (copy hg) (by simp [cDisk, cS, dSl]) (by simp [cDisk, cS, dSl]) fun n3 hs3 r3 hn3 hm3 hp3 hr3 => ?_
    obtain ⟨y, rfl, p3, k3, G3⟩ := hp3
    simp at hn3
    simp [cDisk, cS, dSl, hB, s24_5, ]
    exact ⟨y, by simp [cDisk, cS, dSl], p3, k3, G3.le (by omega)⟩
  have hfp : ¬ yf.length = 0 := by rw [hfn]; simpa using hf
  have hyne : ¬ yf = [] := fun h => hfp (by rw [h]; rfl)
  simp [hyne, dSl, s24_5, ]
  refine call_f (w_impl_IsValidDisk k) (by simp [heK]) rfl fun hs3 hh3 => ?_
  simp at hh3
  cases hdk : dskOk k
  · have hg : comG k P = false := by rw [hG]; simp [hdk]
    rw [hg, Bool.false_and] at hB
    simp [s24_5, ]
    refine call_some (copy hg) (by simp [cDisk, cS, dSl]) (by simp [cDisk, cS, dSl]) fun n4 hs4 r4 hn4 hm4 hp4 hr4 => ?_
    obtain ⟨y, rfl, p3, k3, G3⟩ := hp4
    simp at hn4
    simp [cDisk, cS, dSl, hB, s24_5, ]
    exact ⟨y, by simp [cDisk, cS, dSl], p3, k3, G3.le (by omega)⟩
  have hg : comG k P = true := by rw [hG]; simp [hdk, hf]
  rw [if_pos hg] at hP
  rw [hg, Bool.true_and] at hB
  have hu1 : ((newV k : Int) + 1) = u := by rw [hu]; simp
  rw [hu1] at hvw
  simp [hu1, hvw, s24_5, ]
  repeat' apply And.intro
  all_goals
    refine call_f (w_impl_FormatInt u hvz) (by simp) rfl fun hs4 hh4 => ?_
    simp at hh4
    simp [s24_5, ]
    refine ⟨by omega, ?_⟩
  all_goals (repeat' apply And.intro)
  all_goals
    refine call_some ((e_impl_removed k (hdNm u) hk hkl).er (As := [.agg ((cDisk ⟨⟨Kid, KT, Kx⟩⟩).map V.d), .d (.str (hdNm u))]) (by simp only [rpL, hrK]; rfl)) (by simp [cDisk, cS, dSl, hdNm]) (by simp [cDisk, cS, dSl, hdNm]) fun n5 hs5 r5 hn5 hm5 hp5 hr5 => ?_
    obtain ⟨Y0, rfl, p5, k5, G5⟩ := hp5
    simp at hn5
    have hwl := wout_len k (hdNm u)
    have hwo := wout_ok (nm := hdNm u) hk
    obtain ⟨x0, hx0⟩ : ∃ x, x = wout k (hdNm u) := ⟨_, rfl⟩
    rw [← hx0] at hP hwl hwo p5
    simp [cDisk, cS, dSl, s24_5, ]
    refine loop_rule (X := Nat × Disk) (fun p => p.1 ≤ fs.length ∧ plDisk p.2 = ⟨wrAll x0 ((fs.take n.toNat).take p.1)⟩ ∧ okDisk p.2 ∧ Good (cDisk p.2) (whDisk p.2) B) (fun p => [(2, .d (.int .i64 n)), (6, .ptr 6 0 0), (9, .d (.sl yid yT (yf.map cFile))), (10, .ptr 10 0 0), (34, .d (.sl yid yT (yf.map cFile))), (35, .d (.int .i64 yf.length)), (36, .d (.int .i64 p.1))]) (fun p => [(6, some (.box [.d (.sl none none [])])), (10, some (.box ((cDisk p.2).map V.d)))]) (fun p => fs.length - p.1) (0, Y0) ⟨by simp, by simpa [wrAll] using p5, k5, G5.le (by omega)⟩ (by simp) (by simp [cDisk, cS, dSl]) ?_
    rintro ⟨i, ⟨⟨Yid, YT, Yx⟩⟩⟩ hs t m ⟨hi, hp, hok, hgd⟩ hh
    simp only at hi hp hok hgd
    by_cases hlt : i < fs.length
    · have hwi := wr1 (i := i) (by omega)
      have hly : i < yf.length := by omega
      have hfj : fs[i] = plFile yf[i] := by simp [← hyf]
      have hfo1 := hfo _ (List.getElem_mem hlt)
      obtain ⟨⟨fn, fd⟩, hf'⟩ : ∃ f, f = yf[i] := ⟨_, rfl⟩
      have hfe : fs[i] = ⟨fn, fd⟩ := by rw [hfj, ← hf']; rfl
      rw [hfe] at hfo1
      by_cases hin : (i : Int) < n
      · have hst := take2_step hlt hin
        rw [hfe] at hst
        have hXl := wrAll_len ((fs.take n.toNat).take i) x0
        have hXo := wrAll_ok (fs := (fs.take n.toNat).take i) hwo fun f hf => hfo f (List.mem_of_mem_take (List.mem_of_mem_take hf))
        have hl7 : ((fs.take n.toNat).take i).length ≤ 7 := by rw [List.length_take, List.length_take]; omega
        have hsn := wrAll_snoc (k := x0) (fs := (fs.take n.toNat).take i) (f := ⟨fn, fd⟩)
        rw [← hst] at hsn
        obtain ⟨X, hX⟩ : ∃ X, X = wrAll x0 ((fs.take n.toNat).take i) := ⟨_, rfl⟩
        rw [← hX] at hp hXl hXo hsn
        have hrY := rp_dsk hp
        simp [hlt, hly, hfn, hin, ← hf', cDisk, cFile, cStr, cS, dSl, s24_5, ]
        refine call_some ((e_impl_WriteFile X fn fd hXo hfo1 (by omega)).er (As := [.agg ((cDisk ⟨⟨Yid, YT, Yx⟩⟩).map V.d), .d (.str fn), .d (.str fd)]) (by simp only [rpL, hrY]; rfl)) (by simp [cDisk, cS, dSl]) (by simp [cDisk, cS, dSl]) fun n6 hs6 r6 hn6 hm6 hp6 hr6 => ?_
        obtain ⟨Z, rfl, p6, k6, G6⟩ := hp6
        simp at hn6
        simp [cDisk, cS, dSl, hwi, s24_5, ]
        exact back (i + 1, Z) ⟨by simp only; omega, by rw [p6, ← hsn], k6, G6.le (by omega)⟩ (by simp only; omega) rfl (by simp <;> omega) (by simp [hfn, cFile, cStr]) (by simp [cDisk, cS, dSl])
      · have hst := take2_stop (fs := fs) hin
        simp [hlt, hly, hfn, hin, ← hf', hwi, cDisk, cFile, cStr, cS, dSl, s24_5, ]
        exact back (i + 1, ⟨⟨Yid, YT, Yx⟩⟩) ⟨by simp only; omega, by simp only; rw [hst]; exact hp, hok, hgd⟩ (by simp only; omega) rfl (by simp <;> omega) (by simp [hfn, cFile, cStr]) (by simp [cDisk, cS, dSl])
    · have hend : (fs.take n.toNat).take i = fs.take n.toNat := List.take_of_length_le (by rw [List.length_take]; omega)
      rw [hend, ← hP] at hp
      simp [hlt, hfn, hB, cDisk, cS, dSl, s24_5, ]
      exact ⟨⟨⟨Yid, YT, Yx⟩⟩, by simp [cDisk, cS, dSl], hp, hok, hgd⟩
theorem e_impl_DeleteObsoleteFiles (k : List PFile) (hk : ∀ f ∈ k, fOk f) (hkl : k.length ≤ 1000000000) : VC Try.prog 19 [.agg ((eDisk ⟨k⟩).map V.d)]
   (fun n v => ∃ y : Disk, v = .agg ((cDisk y).map V.d) ∧ plDisk y = ⟨delP k⟩ ∧ okDisk y ∧ Good (cDisk y) (whDisk y) n) := by
  refine VC.of E s19 (by kernel_rfl) Try.func19 (by rfl) (by kernel_rfl) (by simp [Try.f19]) (by simp [Try.f19]) s19_ok fun B => ?_
  have hkd : ∀ f ∈ k, f.data.length ≤ 1000000000 := fun f hf => (hk f hf).2
  have hD : delP k = if recB k then keepP k (verFs (recP k) (newV k)) else [] := rfl
  simp [Try.f19, ]
  refine call_some (e_impl_RecoverDatabase k hkd) (by simp) (by simp) fun n1 hs1 r1 hn1 hm1 hp1 hr1 => ?_
  obtain ⟨⟨⟨did, dT, dx⟩⟩, rfl, p1, k1, G1⟩ := hp1
  simp at hn1
  clear hr1 G1
  cases hb : recB k
  · have hDf : delP k = [] := by rw [hD, hb]; rfl
    simp [cDb, cS, dSl, ]
    exact ⟨dskN, by simp [dskN, cDisk, cS, dSl, nilS], by rw [hDf, pl_dskN], ok_dskN, good_dskN B⟩
  rw [hb, if_pos rfl] at hD
  have hVF := t_impl_VersionFiles ⟨⟨did, dT, dx⟩⟩ (newV k) k1
  rw [p1] at hVF
  have hfl := verFs_len (recP k) (newV k)
  obtain ⟨fs, hfs⟩ : ∃ fs, fs = verFs (recP k) (newV k) := ⟨_, rfl⟩
  rw [← hfs] at hVF hfl hD
  simp [cDb, cS, dSl, ]
  refine loop_ruleL (X := Nat) (fun i _ => i ≤ k.length) (fun i => [(2, .ptr 2 0 0), (3, .ptr 3 0 0), (4, .d (.int .i64 (newV k))), (6, .ptr 6 0 0), (21, .d (.pl (k.map eFile))), (22, .d (.int .i64 k.length)), (23, .d (.int .i64 i))]) (fun i => [(2, some (.box [.d (.sl none none [])])), (3, some (.box [.d (.sl did dT (dx.map cTab))])), (6, some (.box [.own 900 0 (keepP (k.take i) fs).length])), (900, some (.row 34 2 ((keepP (k.take i) fs).map eFile)))]) (fun i => k.length - i) ?_ ?_
  · refine (lead_box 6 0 900 34 2 [.d (.sl none none [])] (by omega) (by omega) (by omega) (by simp) rfl).bind ?_
    rintro _ rfl
    exact Lead.of ⟨0, by omega, rfl, rfl, Nat.le_refl _, by simp, by simp [keepP]⟩
  intro i hs t m hi hh
  by_cases hlt : i < k.length
  case neg =>
    have hn : i = k.length := by omega
    subst hn
    have hkp := keepP_len fs k
    have hkl2 : (keepP k fs).length ≤ 7000000000 := by
      have : k.length * fs.length ≤ 1000000000 * 7 := Nat.mul_le_mul (by omega) hfl
      omega
    have hko := keepP_ok (fs := fs) hk
    rw [hD]
    simp [hlt, List.take_of_length_le, ]
    intro γ hs' h1 hg
    obtain ⟨q1, q2⟩ := gam_at hg (k := 900) (T := 34) (sz := 2) (es := (keepP k fs).map eFile) (by simp [List.take_of_length_le])
    clear hg
    have hp := hp_files (keepP k fs)
    simp [hp, List.take_of_length_le]
    exact ⟨dskT (γ 900) (34) (keepP k fs), by simp [dskT_cells, List.take_of_length_le], by rw [pl_dskT], ok_dskT hko (by omega), good_dskT (fun g hg => (q1 g hg).1) q2⟩
  have hwi := wr1 (i := i) (by omega)
  have hkp := keepP_len fs (k.take i)
  have hstp := keepP_step (fs := fs) hlt
  obtain ⟨K0, hK0⟩ : ∃ K0, K0 = keepP (k.take i) fs := ⟨_, rfl⟩
  rw [← hK0] at hstp hkp ⊢
  have hkl2 : K0.length ≤ 7000000000 := by
    rw [List.length_take] at hkp
    have : min i k.length * fs.length ≤ 1000000000 * 7 := Nat.mul_le_mul (by omega) hfl
    omega
  obtain ⟨fn, fd, hf⟩ : ∃ fn fd, k[i] = ⟨fn, fd⟩ := ⟨_, _, rfl⟩
  rw [hf] at hstp
  refine anyQ2 fun Q => ?_
  simp [hlt, hf, eFile, cStr, ]
  refine call_some hVF (by simp [cDb, cS, dSl]) (by simp) fun n2 hs2 r2 hn2 hm2 hp2 hr2 => ?_
  obtain ⟨⟨yid, yT, yf⟩, rfl, py, ky, Gy⟩ := hp2
  simp at hn2
  clear hr2 Gy
  have hyf : yf.map plFile = fs := py
  have hfn : yf.length = fs.length := by rw [← hyf]; simp
  simp [dSl, ]
  refine loop_rule (X := Nat) (fun j => j ≤ fs.length) (fun j => [(2, .ptr 2 0 0), (3, .ptr 3 0 0), (4, .d (.int .i64 (newV k))), (6, .ptr 6 0 0), (8, .ptr 8 0 0), (21, .d (.pl (k.map eFile))), (22, .d (.int .i64 k.length)), (23, .d (.int .i64 i)), (29, .d (.sl yid yT (yf.map cFile))), (30, .d (.int .i64 yf.length)), (31, .d (.int .i64 j))]) (fun j => [(2, some (.box [.d (.sl none none [])])), (3, some (.box [.d (.sl did dT (dx.map cTab))])), (8, some (.box [.d (.str fn), .d (.str fd)])), (6, some (.box [.own 900 0 (K0 ++ keep1 ⟨fn, fd⟩ (fs.take j)).length])), (900, some (.row 34 2 ((K0 ++ keep1 ⟨fn, fd⟩ (fs.take j)).map eFile)))]) (fun j => fs.length - j) 0 (by simp) (by simp [eFile, cStr]) (by simp [keep1]) ?_
  intro j hs5 t5 m5 hj hh5
  by_cases hjl : j < fs.length
  · have hwj := wr1 (i := j) (by omega)
    have hjy : j < yf.length := by omega
    have hk1 := keep1_len ⟨fn, fd⟩ (fs.take j)
    rw [List.length_take] at hk1
    have hst1 := keep1_step (f := ⟨fn, fd⟩) hjl
    obtain ⟨K1, hK1⟩ : ∃ K1, K1 = keep1 ⟨fn, fd⟩ (fs.take j) := ⟨_, rfl⟩
    rw [← hK1] at hst1 hk1 ⊢
    have hfj : fs[j] = plFile yf[j] := by simp [← hyf]
    obtain ⟨⟨gn, gd⟩, hg⟩ : ∃ f, f = yf[j] := ⟨_, rfl⟩
    have hge : fs[j] = ⟨gn, gd⟩ := by rw [hfj, ← hg]; rfl
    rw [hge] at hst1
    simp only at hst1
    have hL1 : LenOk 32 (K0.length + K1.length + 1) := ⟨by omega, by simp only [maxLen]; omega⟩
    refine anyQ fun Q' => ?_
    by_cases e : gn = fn
    · have e' : fn = gn := e.symm
      rw [if_pos e] at hst1
      simp [hlt, hjl, hjy, hfn, ← hg, e, cFile, eFile, cStr, hwj, hL1, List.take_of_length_le, ]
      exact back (j + 1) (by omega) (by omega) rfl (by simp <;> omega) (by simp [hfn, cFile, eFile, cStr]) (by simp [hst1, eFile, cStr, List.take_of_length_le, Nat.add_assoc])
    · have e' : ¬ fn = gn := fun h => e h.symm
      rw [if_neg e, List.append_nil] at hst1
      simp [hlt, hjl, hjy, hfn, ← hg, e', cFile, eFile, cStr, hwj, List.take_of_length_le, ]
      exact back (j + 1) (by omega) (by omega) rfl (by simp <;> omega) (by simp [hfn, cFile, eFile, cStr]) (by simp [hst1])
  · have hjn : j = fs.length := by omega
    subst hjn
    rw [List.take_of_length_le (Nat.le_refl _)]
    rw [← hstp]
    simp [hfn, hwi, ]
    exact back2 (i + 1) (by omega) (by omega) rfl (by simp <;> omega) (by simp [eFile, cStr]) (by simp)
end

end Go.Proofs.Ytepiehnhajnebaa


namespace Go.Proofs.Ytepiehnhajnebaa
open Go.Vs Go.Proofs Go
set_option maxRecDepth 100000
set_option maxHeartbeats 1000000

end Go.Proofs.Ytepiehnhajnebaa


namespace Go.Proofs.Ytepiehnhajnebaa
open Go.Vs Go.Proofs Go
set_option maxRecDepth 100000
set_option maxHeartbeats 1000000

section
attribute [local simp] plI_id plStr_id map_plI map_plStr pS cP cI cStr cU8 cB eReln eTab eDb eHist
theorem w_spec_EqualRelations (a b : PReln) : VC Try.prog 46 [.agg ((eReln a).map V.d), .agg ((eReln b).map V.d)] (fun _ r => r = .d (.bool (decide (a = b)))) := by
  refine VC.ofL EP s46 (by kernel_rfl) Try.func46 (by rfl) (by kernel_rfl) (by simp [Try.f46]) (by simp [Try.f46]) s46_ok fun B hl => ?_
  simp [pS, maxLen, eHist, eDb, eReln] at hl
  obtain ⟨ah, a⟩ := a
  obtain ⟨bh, b⟩ := b
  simp only at hl
  by_cases h : ah = bh
  case neg => simp [Try.f46, s46_6, h]
  subst h
  by_cases hle : a.length = b.length
  case neg => simp [Try.f46, s46_6, hle, eqt_len hle]
  simp [Try.f46, s46_6, hle]
  refine loop_rule (X := Nat) (EqTo a b) (fun i => [(2, .ptr 2 0 0), (3, .ptr 3 0 0), (5, .d (.int .i64 i))]) (fun i => [(2, some (.box [.d (.int .i64 ah), .d (.pl (a.map (cP cI)))])), (3, some (.box [.d (.int .i64 ah), .d (.pl (b.map (cP cI)))]))]) (fun i => a.length - i) 0 .zero (by simp [hle]) (by simp) ?_
  intro i hs t m hi hh
  have hia := hi.le
  by_cases hlt : i < a.length
  · have hlb : i < b.length := by omega
    have hwi := wr1 (i := i) (by omega)
    simp [hlt, hlb, s46_6, ]
    refine call_f (w_spec_CompareRows a[i] b[i]) (by simp) rfl fun hs1 hh1 => ?_
    simp at hh1
    by_cases he : a[i] = b[i]
    case neg => simp [he, eqt_bad hlt hlb he, cmpL_zero]
    simp [he, hwi, cmpL_self, s46_6, ]
    exact back (i + 1) ⟨by omega, eqt_step hi.eq hlt hlb he⟩ (by omega) rfl (by simp <;> omega) (by simp) (by simp)
  · have hd := eqt_done hi.eq (by omega) hle
    simp [show ¬ i < b.length by omega, hlt, hd]
theorem w_spec_EqualDatabases (a b : PDb) : VC Try.prog 22 [.agg ((eDb a).map V.d), .agg ((eDb b).map V.d)] (fun _ r => r = .d (.bool (decide (a = b)))) := by
  refine VC.ofL EP s22 (by kernel_rfl) Try.func22 (by rfl) (by kernel_rfl) (by simp [Try.f22]) (by simp [Try.f22]) s22_ok fun B hl => ?_
  simp [pS, maxLen, eHist, eDb, eReln] at hl
  obtain ⟨a⟩ := a
  obtain ⟨b⟩ := b
  simp only at hl
  by_cases hle : a.length = b.length
  case neg => simp [Try.f22, s22_6, hle, eqt_len hle]
  simp [Try.f22, s22_6, hle]
  refine loop_rule (X := Nat) (EqTo a b) (fun i => [(2, .ptr 2 0 0), (3, .ptr 3 0 0), (5, .d (.int .i64 i))]) (fun i => [(2, some (.box [.d (.pl (a.map eTab))])), (3, some (.box [.d (.pl (b.map eTab))]))]) (fun i => a.length - i) 0 .zero (by simp [hle]) (by simp) ?_
  intro i hs t m hi hh
  have hia := hi.le
  by_cases hlt : i < a.length
  · have hlb : i < b.length := by omega
    have hwi := wr1 (i := i) (by omega)
    obtain ⟨an, ar, hA⟩ : ∃ an ar, a[i] = ⟨an, ar⟩ := ⟨_, _, rfl⟩
    obtain ⟨bn, br, hBt⟩ : ∃ bn br, b[i] = ⟨bn, br⟩ := ⟨_, _, rfl⟩
    have eA : ((a.map eTab)[i]'(by simpa using hlt)) = eTab ⟨an, ar⟩ := by simp [hA]
    by_cases hn : an = bn
    case neg =>
      have hne : a[i] ≠ b[i] := by rw [hA, hBt]; simp [hn]
      simp [hlt, hlb, hA, hBt, hn, eqt_bad hlt hlb hne, s22_6, ]
    subst hn
    simp [hlt, hlb, hA, hBt, s22_6, ]
    refine call_f (w_spec_EqualRelations ar br) (by simp) rfl fun hs1 hh1 => ?_
    simp at hh1
    by_cases he : ar = br
    case neg =>
      have hne : a[i] ≠ b[i] := by rw [hA, hBt]; simp [he]
      simp [he, eqt_bad hlt hlb hne]
    have he2 : a[i] = b[i] := by rw [hA, hBt, he]
    simp [he, hwi, s22_6, ]
    exact back (i + 1) ⟨by omega, eqt_step hi.eq hlt hlb he2⟩ (by omega) rfl (by simp <;> omega) (by simp) (by simp)
  · have hd := eqt_done hi.eq (by omega) hle
    simp [show ¬ i < b.length by omega, hlt, hd]
end

end Go.Proofs.Ytepiehnhajnebaa


namespace Go.Proofs.Ytepiehnhajnebaa
open Go.Vs Go.Proofs Go
set_option maxRecDepth 100000
set_option maxHeartbeats 1000000

def cW (n : Int) : List D := [.int .u8 n]
/-- a cursor over the bytes b: place, state -/
def curD (b : Sl Int) (c : Nat × Int) : List D := [dSl cW b, .int .i64 c.1, .int .i64 c.2]
def curO (b : Sl Int) (c : Nat × Int) : Prop := c.1 ≤ b.xs.length
/-! operations of drawn numbers, kept shut -/
def andZ (k : IntKind) (a b : Int) : Int := k.wrap (BitVec.ofInt k.bits a &&& BitVec.ofInt k.bits b).toNat
def xorZ (k : IntKind) (a b : Int) : Int := k.wrap (BitVec.ofInt k.bits a ^^^ BitVec.ofInt k.bits b).toNat
def shrZ (k : IntKind) (a b : Int) : Int := a.fdiv (2 ^ (min b.toNat k.bits))
theorem bD_add (k k' : IntKind) (a b : Int) : binD .add (.d (.int k a)) (.d (.int k' b)) = .int k (k.wrap (a + b)) := id rfl
theorem bD_sub (k k' : IntKind) (a b : Int) : binD .sub (.d (.int k a)) (.d (.int k' b)) = .int k (k.wrap (a - b)) := id rfl
theorem bD_mul (k k' : IntKind) (a b : Int) : binD .mul (.d (.int k a)) (.d (.int k' b)) = .int k (k.wrap (a * b)) := id rfl
theorem bD_rem (k k' : IntKind) (a b : Int) : binD .rem (.d (.int k a)) (.d (.int k' b)) = .int k (a.tmod b) := id rfl
theorem bD_and (k k' : IntKind) (a b : Int) : binD .and (.d (.int k a)) (.d (.int k' b)) = .int k (andZ k a b) := id rfl
theorem bD_xor (k k' : IntKind) (a b : Int) : binD .xor (.d (.int k a)) (.d (.int k' b)) = .int k (xorZ k a b) := id rfl
theorem bD_shr (k k' : IntKind) (a b : Int) : binD .shr (.d (.int k a)) (.d (.int k' b)) = .int k (shrZ k a b) := id rfl
theorem bD_lss (k k' : IntKind) (a b : Int) : binD .lss (.d (.int k a)) (.d (.int k' b)) = .bool (decide (a < b)) := id rfl
theorem bD_leq (k k' : IntKind) (a b : Int) : binD .leq (.d (.int k a)) (.d (.int k' b)) = .bool (decide (a ≤ b)) := id rfl
theorem bD_gtr (k k' : IntKind) (a b : Int) : binD .gtr (.d (.int k a)) (.d (.int k' b)) = .bool (decide (b < a)) := id rfl
theorem bD_eql (k k' : IntKind) (a b : Int) : binD .eql (.d (.int k a)) (.d (.int k' b)) = .bool (a == b) := id rfl
theorem and255 (a : Int) : 0 ≤ andZ .i64 a 255 ∧ andZ .i64 a 255 < 256 := by
  have h : (BitVec.ofInt 64 a &&& BitVec.ofInt 64 255).toNat ≤ 255 := by
    rw [BitVec.toNat_and]
    exact Nat.and_le_right
  have e : andZ .i64 a 255 = ((BitVec.ofInt 64 a &&& BitVec.ofInt 64 255).toNat : Int) := by
    show IntKind.i64.wrap ((BitVec.ofInt 64 a &&& BitVec.ofInt 64 255).toNat : Int) = _
    exact wrap64_of (by omega) (by omega)
  rw [e]; omega
/-- of the slots and of memory only this is kept -/
theorem forgetT {P : Program} {E : Md} {ops : Array Oper} {tr : Tr} {K : St → Prop} {B hs : Nat} {W : List Nat} {t0 : Nat → V} {m0 : Nat → Option Blk} (S : List (Nat × V)) (M : List (Nat × Option Blk))
    (hS : ∀ p ∈ S, t0 p.1 = p.2) (hM : ∀ p ∈ M, m0 p.1 = p.2) (h : ∀ t m, vtr P E ops K tr ⟨B, hs, W, updL t S, updL m M⟩) : vtr P E ops K tr ⟨B, hs, W, t0, m0⟩ := by
  have := h t0 m0
  rwa [updL_has hS, updL_has hM] at this
theorem forgetG {G : St → Prop} {B hs : Nat} {W : List Nat} {t0 : Nat → V} {m0 : Nat → Option Blk} (S : List (Nat × V)) (M : List (Nat × Option Blk))
    (hS : ∀ p ∈ S, t0 p.1 = p.2) (hM : ∀ p ∈ M, m0 p.1 = p.2) (h : ∀ t m, G ⟨B, hs, W, updL t S, updL m M⟩) : G ⟨B, hs, W, t0, m0⟩ := by
  have := h t0 m0
  rwa [updL_has hS, updL_has hM] at this
/-- what a call leaves that is handed the cursor: its result, and the cursor over the same bytes -/
structure CurP (b : Sl Int) (q : V → Prop) (r : V) (cs : List V) : Prop where
  ex : ∃ c', q r ∧ cs = (curD b c').map V.d ∧ curO b c'
def byteQ (v : V) : Prop := ∃ x, v = .d (.int .i64 x) ∧ 0 ≤ x ∧ x < 256
def belQ (n : Int) (v : V) : Prop := ∃ x, v = .d (.int .i64 x) ∧ 0 ≤ x ∧ (0 < n → x < n) ∧ (n ≤ 0 → x = 0)
def boolQ (v : V) : Prop := ∃ x, v = .d (.bool x)
def inQ (l : List Int) (v : V) : Prop := ∃ x, v = .d (.int .i64 x) ∧ x ∈ l
def strQ (l : List (List UInt8)) (v : V) : Prop := ∃ x, v = .d (.str x) ∧ x ∈ l
theorem call_cur {P : Program} {E : Md} {args : List Operand} {f : FuncId} {rest As : List V} {k : Nat} {dst : Option Tmp} {K : St → Prop} {σ : St} {b : Sl Int} {q : V → Prop} (c : Nat × Int) (hE : E f = true)
    (hc : VX P f [] (.ptr 1000 0 0 :: As) (some ((curD b c).map V.d)) (fun _ r cs _ => CurP b q r cs)) (hvs : args.map σ.ev = .ptr k 0 0 :: rest) (hm : σ.m k = some (.box ((curD b c).map V.d)))
    (hr : rpL σ.m rest = some As) (hk : keysVL rest = [])
    (hK : ∀ r c' hs', σ.hs ≤ hs' → q r → r.ln → curO b c' → K ({ σ with hs := hs', m := upd σ.m k (some (.box ((curD b c').map V.d))) }.put dst r)) : vcallA P E f args (.ptr k 0 0 :: rest) dst K σ := by
  refine call_xt hE hvs hm hr (by simp [curD, dSl]) hc fun r cs' ws n hs' h1 h2 h3 h4 h5 => ?_
  obtain ⟨c', hq, rfl, ho⟩ := h3.ex
  have : keysVL rest ++ keysVL ((curD b c).map V.d) = [] := by rw [hk]; simp [curD]
  rw [this]
  exact hK r c' hs' (Nat.le_trans h1 h2) hq h4 ho
theorem byte_fin {b : Sl Int} {i : Nat} {H x : Int} (h : i + 1 ≤ b.xs.length) (hx : 0 ≤ x ∧ x < 256) : CurP b byteQ (.d (.int .i64 x)) [.d (.sl b.id b.T (b.xs.map cW)), .d (.int .i64 ((i : Int) + 1)), .d (.int .i64 H)] :=
  ⟨⟨(i + 1, H), ⟨_, rfl, hx.1, hx.2⟩, by simp [curD, dSl], h⟩⟩
theorem byte_fin0 {b : Sl Int} {i : Nat} {H x : Int} (h : i ≤ b.xs.length) (hx : 0 ≤ x ∧ x < 256) : CurP b byteQ (.d (.int .i64 x)) [.d (.sl b.id b.T (b.xs.map cW)), .d (.int .i64 (i : Int)), .d (.int .i64 H)] :=
  ⟨⟨(i, H), ⟨_, rfl, hx.1, hx.2⟩, by simp [curD, dSl], h⟩⟩
section
attribute [local simp] pS dSl cP cI cW bD_add bD_sub bD_mul bD_rem bD_and bD_xor bD_shr bD_lss bD_leq bD_gtr bD_eql vendX vretX
attribute [-simp] binD
theorem w_spec_l1New (b : Sl Int) (hb : b.xs.length ≤ 1048576) : VN Try.prog 29 [.d (dSl cW b)] (fun _ ds => ∃ c, ds = curD b c ∧ curO b c) := by
  refine VN.of EP s29 (by kernel_rfl) Try.func29 (by rfl) (by kernel_rfl) (by simp [Try.f29]) (by simp [Try.f29]) s29_ok fun B => ?_
  simp [Try.f29, ]
  refine loop_rule (X := Nat × Int) (fun p => p.1 ≤ b.xs.length) (fun p => [(0, .d (.sl b.id b.T (b.xs.map cW))), (3, .d (.int .i64 p.2)), (4, .d (.int .i64 p.1))]) (fun _ => []) (fun p => b.xs.length - p.1) (0, IntKind.i64.wrap (10101 + b.xs.length)) (by simp) (by simp) (by simp) ?_
  rintro ⟨i, h⟩ hs t m hi hh
  simp only at hi
  by_cases hlt : i < b.xs.length
  · have hwi := wr1 (i := i) (by omega)
    by_cases h4 : (i : Int) < 4000
    · simp [hlt, h4, hwi, ]
      exact back (i + 1, _) (by simp only; omega) (by simp only; omega) rfl (by simp <;> omega) (by simp; rfl) (by simp)
    · simp [hlt, h4, ]
      exact ⟨curD b (0, h), .inr (by simp [curD]), 0, h, rfl, by simp [curO]⟩
  · simp [hlt, ]
    exact ⟨curD b (0, h), .inr (by simp [curD]), 0, h, rfl, by simp [curO]⟩
theorem w_spec_l1Byte (b : Sl Int) (c : Nat × Int) (hb : b.xs.length ≤ 1048576) (hc : curO b c) : VX Try.prog 59 [] [.ptr 1000 0 0] (some ((curD b c).map V.d)) (fun _ r cs _ => CurP b byteQ r cs) := by
  refine VX.of EP s59 (by kernel_rfl) Try.func59 (by rfl) (by kernel_rfl) (by simp [Try.f59]) (by simp [Try.f59]) s59_ok ?_ ?_ fun B hB => ?_
  · simp
  · rintro cs h
    cases h
    simp [curD]
  obtain ⟨i, h⟩ := c
  simp only [curO] at hc
  simp [Try.f59, curD]
  generalize IntKind.i64.wrap (IntKind.i64.wrap (h * 6364136223846793005) + 1442695040888963407) = h'
  simp [s59_2, ]
  generalize xorZ IntKind.i64 (shrZ IntKind.i64 h' 33) (shrZ IntKind.i64 h' 45) = x'
  have hy := and255 x'
  generalize andZ IntKind.i64 x' 255 = y at hy ⊢
  refine forgetT [(0, .ptr 1000 0 0), (3, .d (.int .i64 y))] [(1000, some (.box [.d (.sl b.id b.T (b.xs.map cW)), .d (.int .i64 i), .d (.int .i64 h')]))] (by simp) (by simp) fun t m => ?_
  by_cases hlt : i < b.xs.length
  · have hwi := wr1 (i := i) (by omega)
    simp [s59_3, hlt]
    simp [-w_region, s59_4, hlt, hwi]
    have hz := and255 (IntKind.i64.wrap (y + IntKind.i64.wrap b.xs[i]))
    generalize andZ IntKind.i64 (IntKind.i64.wrap (y + IntKind.i64.wrap b.xs[i])) 255 = z at hz ⊢
    refine forgetG [(0, .ptr 1000 0 0), (3, .d (.int .i64 z))] [(1000, some (.box [.d (.sl b.id b.T (b.xs.map cW)), .d (.int .i64 i), .d (.int .i64 h')]))] (by simp) (by simp) fun t m => ?_
    simp [hwi]
    exact .inr <| byte_fin (b := b) (by omega) hz
  · simp [s59_3, hlt]
    exact .inr <| byte_fin0 hc hy
theorem w_spec_l1Below (b : Sl Int) (c : Nat × Int) (n : Int) (hb : b.xs.length ≤ 1048576) (hc : curO b c) (hn : n ≤ 1000000000) : VX Try.prog 47 [] [.ptr 1000 0 0, .d (.int .i64 n)] (some ((curD b c).map V.d)) (fun _ r cs _ => CurP b (belQ n) r cs) := by
  refine VX.of EP s47 (by kernel_rfl) Try.func47 (by rfl) (by kernel_rfl) (by simp [Try.f47]) (by simp [Try.f47]) s47_ok ?_ ?_ fun B hB => ?_
  · simp
  · rintro cs h
    cases h
    simp [curD]
  by_cases h0 : n ≤ 0
  · simp [Try.f47, curD, h0]
    exact .inr ⟨⟨c, ⟨0, rfl, by omega, fun h => absurd h (by omega), fun _ => rfl⟩, by simp [curD], hc⟩⟩
  have tm : ∀ x : Int, 0 ≤ x → 0 ≤ x.tmod n ∧ x.tmod n < n := fun x hx => by
    rw [Int.tmod_eq_emod_of_nonneg hx]
    exact ⟨Int.emod_nonneg _ (by omega), Int.emod_lt_of_pos _ (by omega)⟩
  have hn0 : ¬ n = 0 := by omega
  by_cases h1 : n ≤ 256
  · simp [Try.f47, curD, h0, h1]
    refine call_cur c E59 (w_spec_l1Byte b c hb hc) (by simp) (by simp [curD]) (by simp) (by simp) fun r1 c1 hs1 hh1 hq1 hl1 o1 => ?_
    obtain ⟨x1, rfl, a1, b1⟩ := hq1
    simp [curD, hn0]
    exact .inr ⟨⟨c1, ⟨_, rfl, (tm x1 a1).1, fun _ => (tm x1 a1).2, fun h => absurd h h0⟩, by simp [curD], o1⟩⟩
  simp [Try.f47, curD, h0, h1]
  refine call_cur c E59 (w_spec_l1Byte b c hb hc) (by simp) (by simp [curD]) (by simp) (by simp) fun r1 c1 hs1 hh1 hq1 hl1 o1 => ?_
  obtain ⟨x1, rfl, a1, b1⟩ := hq1
  simp [curD]
  refine call_cur c1 E59 (w_spec_l1Byte b c1 hb o1) (by simp) (by simp [curD]) (by simp) (by simp) fun r2 c2 hs2 hh2 hq2 hl2 o2 => ?_
  obtain ⟨x2, rfl, a2, b2⟩ := hq2
  simp [curD]
  refine call_cur c2 E59 (w_spec_l1Byte b c2 hb o2) (by simp) (by simp [curD]) (by simp) (by simp) fun r3 c3 hs3 hh3 hq3 hl3 o3 => ?_
  obtain ⟨x3, rfl, a3, b3⟩ := hq3
  simp [curD]
  refine call_cur c3 E59 (w_spec_l1Byte b c3 hb o3) (by simp) (by simp [curD]) (by simp) (by simp) fun r4 c4 hs4 hh4 hq4 hl4 o4 => ?_
  obtain ⟨x4, rfl, a4, b4⟩ := hq4
  have w1 : IntKind.i64.wrap (x1 * 16777216) = x1 * 16777216 := wrap64_of (by omega) (by omega)
  have w2 : IntKind.i64.wrap (x2 * 65536) = x2 * 65536 := wrap64_of (by omega) (by omega)
  have w3 : IntKind.i64.wrap (x3 * 256) = x3 * 256 := wrap64_of (by omega) (by omega)
  have w4 : IntKind.i64.wrap (x1 * 16777216 + x2 * 65536) = x1 * 16777216 + x2 * 65536 := wrap64_of (by omega) (by omega)
  have w5 : IntKind.i64.wrap (x1 * 16777216 + x2 * 65536 + x3 * 256) = x1 * 16777216 + x2 * 65536 + x3 * 256 := wrap64_of (by omega) (by omega)
  have w6 : IntKind.i64.wrap (x1 * 16777216 + x2 * 65536 + x3 * 256 + x4) = x1 * 16777216 + x2 * 65536 + x3 * 256 + x4 := wrap64_of (by omega) (by omega)
  simp [curD, hn0, w1, w2, w3, w4, w5, w6]
  exact .inr ⟨⟨c4, ⟨_, rfl, (tm _ (by omega)).1, fun _ => (tm _ (by omega)).2, fun h => absurd h h0⟩, by simp [curD], o4⟩⟩
theorem w_spec_l1Once (b : Sl Int) (c : Nat × Int) (n : Int) (hb : b.xs.length ≤ 1048576) (hc : curO b c) (hn : n ≤ 1000000000) : VX Try.prog 57 [] [.ptr 1000 0 0, .d (.int .i64 n)] (some ((curD b c).map V.d)) (fun _ r cs _ => CurP b boolQ r cs) := by
  refine VX.of EP s57 (by kernel_rfl) Try.func57 (by rfl) (by kernel_rfl) (by simp [Try.f57]) (by simp [Try.f57]) s57_ok ?_ ?_ fun B hB => ?_
  · simp
  · rintro cs h
    cases h
    simp [curD]
  simp [Try.f57, curD]
  refine call_cur c E47 (w_spec_l1Below b c n hb hc hn) (by simp) (by simp [curD]) (by simp) (by simp) fun r1 c1 hs1 hh1 hq1 hl1 o1 => ?_
  obtain ⟨x1, rfl, a1, b1, d1⟩ := hq1
  simp [curD]
  exact .inr ⟨⟨c1, ⟨_, rfl⟩, by simp [curD], o1⟩⟩
theorem w_spec_l1PickInt (b : Sl Int) (c : Nat × Int) (l : List Int) (hb : b.xs.length ≤ 1048576) (hc : curO b c) (hl0 : l ≠ []) (hll : l.length ≤ 1000) : VX Try.prog 34 [] [.ptr 1000 0 0, .d (pS cI l)] (some ((curD b c).map V.d)) (fun _ r cs _ => CurP b (inQ l) r cs) := by
  refine VX.of EP s34 (by kernel_rfl) Try.func34 (by rfl) (by kernel_rfl) (by simp [Try.f34]) (by simp [Try.f34]) s34_ok ?_ ?_ fun B hB => ?_
  · simp
  · rintro cs h
    cases h
    simp [curD]
  have hp := List.length_pos_iff.2 hl0
  simp [Try.f34, curD]
  refine call_cur c E47 (w_spec_l1Below b c l.length hb hc (by omega)) (by simp) (by simp [curD]) (by simp) (by simp) fun r1 c1 hs1 hh1 hq1 hl1 o1 => ?_
  obtain ⟨x1, rfl, a1, b1, d1⟩ := hq1
  have b1' := b1 (by omega)
  obtain ⟨k, rfl⟩ : ∃ k : Nat, x1 = k := ⟨x1.toNat, by omega⟩
  have hk : k < l.length := by omega
  simp [curD, hk]
  exact .inr ⟨⟨c1, ⟨_, rfl, List.getElem_mem hk⟩, by simp [curD], o1⟩⟩
theorem w_spec_l1Pick (b : Sl Int) (c : Nat × Int) (l : List (List UInt8)) (hb : b.xs.length ≤ 1048576) (hc : curO b c) (hl0 : l ≠ []) (hll : l.length ≤ 1000) : VX Try.prog 31 [] [.ptr 1000 0 0, .d (pS cStr l)] (some ((curD b c).map V.d)) (fun _ r cs _ => CurP b (strQ l) r cs) := by
  refine VX.of EP s31 (by kernel_rfl) Try.func31 (by rfl) (by kernel_rfl) (by simp [Try.f31]) (by simp [Try.f31]) s31_ok ?_ ?_ fun B hB => ?_
  · simp
  · rintro cs h
    cases h
    simp [curD]
  have hp := List.length_pos_iff.2 hl0
  simp [Try.f31, curD]
  refine call_cur c E47 (w_spec_l1Below b c l.length hb hc (by omega)) (by simp) (by simp [curD]) (by simp) (by simp) fun r1 c1 hs1 hh1 hq1 hl1 o1 => ?_
  obtain ⟨x1, rfl, a1, b1, d1⟩ := hq1
  have b1' := b1 (by omega)
  obtain ⟨k, rfl⟩ : ∃ k : Nat, x1 = k := ⟨x1.toNat, by omega⟩
  have hk : k < l.length := by omega
  simp [curD, hk, cStr]
  exact .inr ⟨⟨c1, ⟨_, rfl, List.getElem_mem hk⟩, by simp [curD], o1⟩⟩
end

end Go.Proofs.Ytepiehnhajnebaa


namespace Go.Proofs.Ytepiehnhajnebaa
open Go.Vs Go.Proofs Go
set_option maxRecDepth 100000
set_option maxHeartbeats 1000000

def rowQ (n : Int) (v : V) : Prop := ∃ l : List Int, v = .d (.pl (l.map cI)) ∧ (l.length : Int) ≤ max n 0
section
attribute [local simp] pS dSl cP cI cW
theorem w_spec_l4Row (b : Sl Int) (c : Nat × Int) (n most : Int) (hb : b.xs.length ≤ 1048576) (hc : curO b c) (hn : n ≤ 1000) (hm : most ≤ 1000000000) : VX Try.prog 80 [] [.ptr 1000 0 0, .d (.int .i64 n), .d (.int .i64 most)] (some ((curD b c).map V.d)) (fun _ r cs _ => CurP b (rowQ n) r cs) := by
  refine VX.of EP s80 (by kernel_rfl) Try.func80 (by rfl) (by kernel_rfl) (by simp [Try.f80]) (by simp [Try.f80]) s80_ok ?_ ?_ fun B hB => ?_
  · simp
  · rintro cs h
    cases h
    simp [curD]
  simp [Try.f80, curD]
  refine loop_rule (X := (Nat × Int) × List Int) (fun p => curO b p.1 ∧ (p.2.length : Int) ≤ max n 0) (fun p => [(0, .ptr 1000 0 0), (1, .d (.int .i64 n)), (2, .d (.int .i64 most)), (7, .own 8 0 p.2.length)]) (fun p => [(1000, some (.box ((curD b p.1).map V.d))), (8, some (.row 3 1 (p.2.map cI)))]) (fun p => 1000 - p.2.length) (c, []) ⟨hc, by simp; omega⟩ (by simp) (by simp [curD]) ?_
  rintro ⟨c1, l⟩ hs t m ⟨ho, hl⟩ hh
  simp only at ho hl
  by_cases hlt : (l.length : Int) < n
  · have hL : LenOk 8 (l.length + 1) := ⟨by omega, by simp only [maxLen]; omega⟩
    simp [hlt, curD, ]
    refine call_cur c1 E47 (w_spec_l1Below b c1 most hb ho hm) (by simp) (by simp [curD]) (by simp) (by simp) fun r1 c2 hs1 hh1 hq1 hl1 o1 => ?_
    obtain ⟨x, rfl, _⟩ := hq1
    simp [hlt, hL, curD, ]
    exact back (c2, l ++ [x]) ⟨o1, by simp; omega⟩ (by simp; omega) rfl (by simp <;> omega) (by simp) (by simp [curD])
  · simp [hlt, curD, vendX, ]
    exact .inr ⟨⟨c1, ⟨l, by simp [List.take_of_length_le], hl⟩, by simp [curD], ho⟩⟩
end

end Go.Proofs.Ytepiehnhajnebaa


namespace Go.Proofs.Ytepiehnhajnebaa
open Go.Vs Go.Proofs Go
set_option maxRecDepth 100000
set_option maxHeartbeats 1000000

section
attribute [local simp] plI_id plStr_id map_plI map_plStr
theorem e_spec_l5Copy (r : PReln) (hb : r.rows.length ≤ 4294967296) (hb2 : ∀ x ∈ r.rows, x.length ≤ 4294967296) :
   VC Try.prog 88 [.agg ((eReln r).map V.d)] (fun n v => ∃ y : Reln, v = .agg ((cReln y).map V.d) ∧ plReln y = r ∧ okReln y ∧ (∀ g, y.rows.id = some g → y.rows.T = some (61, 1)) ∧ Good (cReln y) (whReln y) n) := by
  obtain ⟨ar, l⟩ := r
  simp only at hb hb2
  refine VC.of E s88 (by kernel_rfl) Try.func88 (by rfl) (by kernel_rfl) (by simp [Try.f88]) (by simp [Try.f88]) s88_ok fun B => ?_
  simp [Try.f88, s88_5, eReln, pS, cI]
  refine loop_ruleL (X := Nat × List Ints) (CopI (cS cI) (whS whI) (okS okI) (plS plI) l B) (fun p => [(1, .ptr 1 0 0), (2, .ptr 2 0 0), (3, .ptr 3 0 0), (4, .d (.int .i64 p.1))])
    (fun p => [(1, some (.box [.d (.int .i64 ar), .d (.pl (l.map (cP cI)))])), (2, some (.box [.d (.int .i64 0), .d (.sl none none [])])), (3, some (.box [.d (.int .i64 ar), .own 25 0 p.2.length])), (25, some (.row 61 1 (p.2.map (cS cI))))]) (fun p => l.length - p.1) ?_ ?_
  · refine (lead_box 3 1 25 61 1 [.d (.int .i64 ar), .d (.sl none none [])] (by omega) (by omega) (by omega) (by simp) rfl).bind ?_
    rintro _ rfl
    exact Lead.of ⟨(0, []), .zero, rfl, rfl, Nat.le_refl _, by simp, by simp⟩
  rintro ⟨i, ys⟩ hs t m hI hh
  have hle := hI.le
  have hyl := hI.len
  simp only at hle
  by_cases hlt : i < l.length
  · have hwi := wr1 (i := i) (by omega)
    have hL : LenOk 24 (i + 1) := ⟨by omega, by simp only [maxLen]; omega⟩
    have hx := hb2 _ (List.getElem_mem hlt)
    obtain ⟨row, hrow⟩ : ∃ row, row = l[i] := ⟨_, rfl⟩
    rw [← hrow] at hx
    have hL2 : LenOk 8 row.length := ⟨by omega, by simp only [maxLen]; omega⟩
    refine anyQ2 fun Q => ?_
    simp [hlt, ← hrow, cP, pS, hL2, hyl, List.take_of_length_le, s88_5, ]
    rw [w_bs1 (k' := 17) (ks := []) _ _ _ (by simp) (by simp)]
    intro γ hs' h1 hg
    simp only at h1
    obtain ⟨q1, q2⟩ := gam_at hg (k := 17) (T := 3) (sz := 1) (es := row.map cI) (by simp)
    have q3 := gam_row2 hg (k := 17) (T := 3) (sz := 1) (es := row.map cI) (k2 := 25) (T2 := 61) (sz2 := 1) (es2 := ys.map (cS cI)) (by simp) (by simp)
    clear hg
    have hp : hpLL (row.map cI) = false := hpLL_mapI _
    simp [vpre, vnext, veff, vval, isPure, St.frzs, St.frz, Vs.frz, hp, hL, hwi, hyl, List.take_of_length_le]
    have hid : ∀ L : List Int, idsLL (L.map cI) = [] := fun L => by simp
    have hy : ∀ g, g ∈ idsL (cS cI (⟨γ 17, some (3, 1), row⟩ : Ints)) → γ 17 = some g := fun g hg => by
      rw [idsL_cS] at hg
      rcases mem_sl_ids.1 hg with h | h
      · exact h
      · simp only at h; rw [hid] at h; simp at h
    have hG : Good (cS cI (⟨γ 17, some (3, 1), row⟩ : Ints)) (whS whI ⟨γ 17, some (3, 1), row⟩) B :=
      good_row (fun g hg => (q1 g hg).1) (by simpa using q2) (fun g _ => by rw [hid]; simp) ⟨by rw [hid]; simp, by rw [hid]; simp⟩ (by simp [whI])
    refine back2 (i + 1, ys ++ [⟨γ 17, some (3, 1), row⟩]) ⟨by simp only; omega, ?_, ?_, GoodL.snoc2 hI.good h1 hG (fun g hg => q3 g (hy g hg)) (fun g hg => (q1 g (hy g hg)).2)⟩ (by simp only; omega) rfl (by simp <;> omega) (by simp) (by simp [hyl, cS, dSl])
    · have := hI.pl
      simp only at this
      simp only [List.map_append, List.map_cons, List.map_nil]
      rw [this, List.take_succ_eq_append_getElem hlt, ← hrow]
      simp [plS]
    · intro z hz
      rcases List.mem_append.1 hz with hz | hz
      · exact hI.ok z hz
      · rw [List.mem_singleton.1 hz]
        exact ⟨by simp only [maxLen]; omega, fun _ _ => trivial⟩
  · have hall := hI.all (by omega)
    simp [hlt, hyl, s88_5, ]
    intro γ hs' h1 hg
    obtain ⟨q1, q2⟩ := gam_at hg (k := 25) (T := 61) (sz := 1) (es := ys.map (cS cI)) (by simp)
    have q3 := gam_row hg (k := 25) (T := 61) (sz := 1) (es := ys.map (cS cI)) (by simp)
    clear hg
    have hp : hpLL (ys.map (cS cI)) = false := hpLL_mapS ys
    simp [hp, hyl, List.take_of_length_le]
    refine ⟨⟨ar, ⟨γ 25, some (61, 1), ys⟩⟩, by simp [cReln, cI, cS, dSl, hyl, List.take_of_length_le], by simp [plReln, plS, hall], ⟨trivial, ⟨by simp only [maxLen]; show ys.length ≤ _; omega, hI.ok⟩⟩, fun _ _ => rfl, good_Reln (good_row (fun g hg => (q1 g hg).1) (by simpa using q2) q3 ⟨hI.good.nd, hI.good.lo⟩ hI.good.wh) (Nat.le_refl _)⟩
end

end Go.Proofs.Ytepiehnhajnebaa


namespace Go.Proofs.Ytepiehnhajnebaa
open Go.Vs Go.Proofs Go
set_option maxRecDepth 100000
set_option maxHeartbeats 1000000

theorem e_spec_NewRelation (ar : Int) (l : List (List Int)) (hb : l.length ≤ 4294967296) (hn : ∀ x ∈ l, x.length ≤ 4294967296) : VC Try.prog 86 [.d (.int .i64 ar), .d (pS (cP cI) l)]
   (fun n v => ∃ y : Reln, v = .tup [.agg ((cReln y).map V.d), .d (.bool (newB ar l))] ∧ plReln y = newR ar l ∧ okReln y ∧ (∀ g, y.rows.id = some g → y.rows.T = some (61, 1)) ∧ Good (cReln y) (whReln y) n) := by
  refine VC.of E s86 (by kernel_rfl) Try.func86 (by rfl) (by kernel_rfl) (by simp [Try.f86]) (by simp [Try.f86]) s86_ok fun B => ?_
  have fail : newB ar l = false → ∃ y : Reln, V.tup [V.agg [V.d (D.int IntKind.i64 0), V.d (D.sl none none [])], V.d (D.bool false)] = .tup [.agg ((cReln y).map V.d), .d (.bool (newB ar l))] ∧ plReln y = newR ar l ∧ okReln y ∧ (∀ g, y.rows.id = some g → y.rows.T = some (61, 1)) ∧ Good (cReln y) (whReln y) B := fun h =>
    ⟨⟨0, nilS⟩, by rw [h]; simp [cReln, cI, cS, dSl, nilS], by simp [newR, h, plReln, plI, nilS, plS], ⟨trivial, ok_nilS⟩, fun g hg => (by cases hg), good_Reln0 B⟩
  simp [Try.f86, pS]
  refine loop_rule (X := Nat) (fun i => i ≤ l.length ∧ AllTo (fun r : List Int => decide ((r.length : Int) = ar) && valsOk r) l i) (fun i => [(0, .d (.int .i64 ar)), (1, .d (.pl (l.map (cP cI)))), (4, .ptr 4 0 0), (6, .d (.int .i64 i))])
    (fun i => [(4, some (.box [.d (.int .i64 0), .d (.sl none none [])]))]) (fun i => l.length - i) 0 ⟨by simp, allTo_zero⟩ (by simp) (by simp) ?_
  intro i hs t m hi hh
  by_cases hlt : i < l.length
  · have hwi := wr1 (i := i) (by omega)
    by_cases hln : (l[i].length : Int) = ar
    · simp [hlt, hln, cP, pS, ]
      refine call_f (w_spec_AreValidValues l[i]) (by simp [pS]) rfl fun hs1 hh1 => ?_
      simp at hh1
      cases hv : valsOk l[i]
      · have hbad := all_bad (p := fun r : List Int => decide ((r.length : Int) = ar) && valsOk r) hlt (by simp [hv])
        simp []
        simpa using fail (by simp [newB, hbad])
      · simp [hwi]
        exact back (i + 1) ⟨by omega, allTo_step hi.2 hlt (by simp [hv, hln])⟩ (by omega) rfl (by simp <;> omega) (by simp [cP, pS]) (by simp)
    · have hbad := all_bad (p := fun r : List Int => decide ((r.length : Int) = ar) && valsOk r) hlt (by simp [hln])
      simp [hlt, hln, cP, pS, ]
      simpa using fail (by simp [newB, hbad])
  · have hd := allTo_done hi.2 (by omega)
    have hsl := srtU_len l
    simp [hlt, ]
    refine call_p (w_spec_l5Sort _ l (Nat.le_refl _) hb) (by simp [pS]) fun hs1 hh1 _ => ?_
    simp at hh1
    simp []
    refine call_some (e_spec_l5Copy ⟨ar, srtU l⟩ (by simp; omega) (fun x hx => hn x ((srtU_mem l x).1 hx))) (by simp [eReln, pS, cI, cP]) (by simp [eReln, pS, cI, cP]) fun n2 hs2 r2 hn2 hm2 hp2 hr2 => ?_
    obtain ⟨⟨ya, ⟨yid, yT, ys⟩⟩, rfl, p2, k2, T2, G2⟩ := hp2
    simp at hn2
    have hya : ya = ar ∧ ys.map (plS plI) = srtU l := by
      simp only [plReln, plS, plI, PReln.mk.injEq] at p2
      exact p2
    simp [cReln, cI, cS, dSl, ]
    refine call_f (w_spec_IsValidRelation ⟨ar, srtU l⟩) (by simp [eReln, cP, pS, cI, hya.1, ← hya.2, erLL_map (er_cS er_cI)]) rfl fun hs3 hh3 => ?_
    simp at hh3
    cases h1 : rowsOk ar (srtU l)
    · have hB : newB ar l = false := by simp [newB, h1]
      obtain ⟨y, e1, e2⟩ := fail hB
      simp []
      exact ⟨y, by simpa [cReln, cI, cS, dSl] using e1, e2⟩
    · have hB : newB ar l = true := by simp [newB, h1, hd]
      simp []
      exact ⟨⟨ya, ⟨yid, yT, ys⟩⟩, by simp [cReln, cI, cS, dSl, hB], by rw [p2, newR, if_pos hB], k2, T2, G2.le (by omega)⟩

end Go.Proofs.Ytepiehnhajnebaa


namespace Go.Proofs.Ytepiehnhajnebaa
open Go.Vs Go.Proofs Go
set_option maxRecDepth 100000
set_option maxHeartbeats 1000000

/-- what the draw of a relation leaves -/
structure RelC (t1 : Nat) (b : Sl Int) (n : Nat) (r : V) (cs : List V) : Prop where
  ex : ∃ (c' : Nat × Int) (y : Reln), r = .agg ((cReln y).map V.d) ∧ rowsOk (plReln y).ar (plReln y).rows = true ∧ (y.rows.xs.length ≤ 1000 ∧ y.ar ≤ 1000) ∧ okReln y ∧ (∀ g, y.rows.id = some g → y.rows.T = some (t1, 1)) ∧ Good (cReln y) (whReln y) n ∧ cs = (curD b c').map V.d ∧ curO b c'
theorem newR_ok (ar : Int) (l : List (List Int)) : rowsOk (newR ar l).ar (newR ar l).rows = true := by
  unfold newR
  split
  · rename_i h
    simp only [newB, Bool.and_eq_true] at h
    exact h.2
  · decide
theorem newR_ar (ar : Int) (l : List (List Int)) (h : ar ≤ 1000) : (newR ar l).ar ≤ 1000 := by
  unfold newR
  split
  · exact h
  · simp
theorem newR_len (ar : Int) (l : List (List Int)) : (newR ar l).rows.length ≤ l.length := by
  unfold newR
  split
  · exact srtU_len l
  · simp
@[simp] theorem startX4b (a b c d : V) (W : List Nat) (cs : List V) (B : Nat) : St.startX [a, b, c, d] W (some cs) B = ⟨B, B, W, upd (upd (upd (upd (fun _ => .tup []) 3 d) 2 c) 1 b) 0 a, upd (fun _ => none) 1000 (some (.box cs))⟩ := by
  simp only [St.startX, St.mk.injEq, true_and]
  refine ⟨?_, startX_box cs⟩
  funext i; match i with | 0 => rfl | 1 => rfl | 2 => rfl | 3 => rfl | _ + 4 => rfl
section
attribute [local simp] pS dSl cP cI cW
theorem w_spec_l5Rel (b : Sl Int) (c : Nat × Int) (ar most val : Int) (hb : b.xs.length ≤ 1048576) (hc : curO b c) (har : ar ≤ 1000) (hm : 0 ≤ most ∧ most ≤ 1000) (hv : val ≤ 1000000000) : VX Try.prog 72 [] [.ptr 1000 0 0, .d (.int .i64 ar), .d (.int .i64 most), .d (.int .i64 val)] (some ((curD b c).map V.d)) (fun n r cs _ => RelC 61 b n r cs) := by
  refine VX.of E s72 (by kernel_rfl) Try.func72 (by rfl) (by kernel_rfl) (by simp [Try.f72]) (by simp [Try.f72]) s72_ok ?_ ?_ fun B hB => ?_
  · simp
  · rintro cs h
    cases h
    simp [curD]
  have hw : IntKind.i64.wrap (most + 1) = most + 1 := wrap64_of (by omega) (by omega)
  simp [Try.f72, curD, hw]
  refine call_cur c E47 (w_spec_l1Below b c (most + 1) hb hc (by omega)) (by simp) (by simp [curD]) (by simp) (by simp) fun r1 c1 hs1 hh1 hq1 hl1 o1 => ?_
  have hB1 : B ≤ hs1 := hh1
  obtain ⟨x, rfl, x0, x1, _⟩ := hq1
  have x1' := x1 (by omega)
  obtain ⟨N, rfl⟩ : ∃ N : Nat, x = N := ⟨x.toNat, by omega⟩
  simp [curD]
  refine loop_rule (X := (Nat × Int) × List (List Int) × Nat) (fun p => curO b p.1 ∧ p.2.1.length + p.2.2 ≤ N ∧ ∀ x ∈ p.2.1, x.length ≤ 1000) (fun p => [(0, .ptr 1000 0 0), (1, .d (.int .i64 ar)), (3, .d (.int .i64 val)), (8, .ptr 8 0 0), (9, .own 13 0 p.2.1.length), (10, .d (.int .i64 p.2.2))]) (fun p => [(1000, some (.box ((curD b p.1).map V.d))), (8, some (.box [.d (.int .i64 0), .d (.sl none none [])])), (13, some (.row 61 1 (p.2.1.map (cP cI))))]) (fun p => p.2.2) (c1, [], N) ⟨o1, by simp, by simp⟩ (by simp) (by simp [curD]) ?_
  rintro ⟨c2, l, k⟩ hs t m ⟨ho, hl, hlm⟩ hh
  simp only at ho hl hlm
  cases k with
  | zero =>
    simp [curD, ]
    refine call_pq (e_spec_NewRelation ar l (by omega) (fun x hx => by have := hlm x hx; omega)) (by simp [List.take_of_length_le]) fun n4 hs4 r4 hn4 hm4 hp4 hl4 => ?_
    obtain ⟨⟨ya, ⟨yid, yT, ys⟩⟩, rfl, p4, k4, T4, G4⟩ := hp4
    simp at hn4
    simp [cReln, cS, dSl, vendX, ]
    intro γ hs' h1 hg
    clear hg
    refine ⟨⟨c2, ⟨ya, ⟨yid, yT, ys⟩⟩, by simp [cReln, cS, dSl], by rw [p4]; exact newR_ok ar l, ⟨by have := newR_len ar l; rw [← p4] at this; simp [plReln, plS] at this; simp only; omega, by have := newR_ar ar l har; rw [← p4] at this; exact this⟩, k4, T4, G4.le (by omega), by simp [curD], ho⟩⟩
  | succ k =>
  obtain ⟨u, hu⟩ : ∃ u : Nat, u = k + 1 := ⟨_, rfl⟩
  have hup : 0 < u := by omega
  have hwm : IntKind.i64.wrap ((u : Int) - 1) = k := by rw [wrap64_of (by omega) (by omega)]; omega
  have hL : LenOk 24 (l.length + 1) := ⟨by omega, by simp only [maxLen]; omega⟩
  rw [← hu] at hl ⊢
  simp [hup, curD, ]
  refine call_cur c2 E80 (w_spec_l4Row b c2 ar val hb ho har hv) (by simp) (by simp [curD]) (by simp) (by simp) fun r3 c3 hs3 hh3 hq3 hl3 o3 => ?_
  obtain ⟨row, rfl, hrow⟩ := hq3
  simp [hL, hwm, curD, List.take_of_length_le, ]
  refine back (c3, l ++ [row], k) ⟨o3, by simp; omega, fun x hx => ?_⟩ (by simp only; omega) rfl (by simp <;> omega) (by simp) (by simp [curD])
  rcases List.mem_append.1 hx with hx | hx
  · exact hlm x hx
  · rw [List.mem_singleton.1 hx]; omega
end
theorem call_curK {P : Program} {E : Md} {args : List Operand} {f : FuncId} {rest As : List V} {k : Nat} {dst : Option Tmp} {K : St → Prop} {σ : St} {b : Sl Int} {q : V → Prop} (c : Nat × Int) (hE : E f = true)
    (hc : VX P f [] (.ptr 1000 0 0 :: As) (some ((curD b c).map V.d)) (fun _ r cs _ => CurP b q r cs)) (hvs : args.map σ.ev = .ptr k 0 0 :: rest) (hm : σ.m k = some (.box ((curD b c).map V.d)))
    (hr : rpL σ.m rest = some As)
    (hK : ∀ r c' hs', σ.hs ≤ hs' → q r → r.ln → curO b c' → K ({ (σ.frps (keysVL rest)) with hs := hs', m := upd (σ.frps (keysVL rest)).m k (some (.box ((curD b c').map V.d))) }.put dst r)) : vcallA P E f args (.ptr k 0 0 :: rest) dst K σ := by
  refine call_xt hE hvs hm hr (by simp [curD, dSl]) hc fun r cs' ws n hs' h1 h2 h3 h4 h5 => ?_
  obtain ⟨c', hq, rfl, ho⟩ := h3.ex
  have : keysVL rest ++ keysVL ((curD b c).map V.d) = keysVL rest := by simp [curD]
  rw [this]
  exact hK r c' hs' (Nat.le_trans h1 h2) hq h4 ho
/-- a call that is handed the cursor and hands back a new relation -/
theorem call_rel {P : Program} {t1 : Nat} {E : Md} {args : List Operand} {f : FuncId} {rest As : List V} {k : Nat} {dst : Option Tmp} {K : St → Prop} {σ : St} {b : Sl Int} (c : Nat × Int) (hE : E f = true)
    (hc : VX P f [] (.ptr 1000 0 0 :: As) (some ((curD b c).map V.d)) (fun n r cs _ => RelC t1 b n r cs)) (hvs : args.map σ.ev = .ptr k 0 0 :: rest) (hm : σ.m k = some (.box ((curD b c).map V.d)))
    (hr : rpL σ.m rest = some As) (hk : keysVL rest = [])
    (hK : ∀ (y : Reln) c' n hs', σ.hs ≤ n → n ≤ hs' → rowsOk (plReln y).ar (plReln y).rows = true → (y.rows.xs.length ≤ 1000 ∧ y.ar ≤ 1000) → okReln y → (∀ g, y.rows.id = some g → y.rows.T = some (t1, 1)) → Good (cReln y) (whReln y) n → (∀ g ∈ idsL (cReln y), g < hs') → curO b c' → K ({ σ with hs := hs', m := upd σ.m k (some (.box ((curD b c').map V.d))) }.put dst (.agg ((cReln y).map V.d)))) : vcallA P E f args (.ptr k 0 0 :: rest) dst K σ := by
  refine call_xi hE hvs hm hr (by simp [curD, dSl]) hc fun r cs' ws n hs' h1 h2 h3 h4 h5 h9 => ?_
  obtain ⟨c', y, rfl, h6, hln, h7, hT, h8, rfl, ho⟩ := h3.ex
  have : keysVL rest ++ keysVL ((curD b c).map V.d) = [] := by rw [hk]; simp [curD]
  rw [this]
  exact hK y c' n hs' h1 h2 h6 hln h7 hT h8 (fun g hg => h9 g (by rw [ids_agg]; exact hg)) ho
theorem tkLL_mapW (l : List Int) : tkLL (l.map cW) = true := by
  induction l with
  | nil => rfl
  | cons x r ih => simp only [List.map_cons, tkLL, ih, cW]; simp [tkL, D.tk]

end Go.Proofs.Ytepiehnhajnebaa


namespace Go.Proofs.Ytepiehnhajnebaa
open Go.Vs Go.Proofs Go
set_option maxRecDepth 100000
set_option maxHeartbeats 1000000

/-- what the draw of a row leaves -/
structure RowC (b : Sl Int) (k : Int) (n : Nat) (r : V) (cs : List V) : Prop where
  ex : ∃ (c' : Nat × Int) (s : Sl Int), r = .d (dSl cI s) ∧ (s.xs.length : Int) ≤ max k 0 ∧ (∀ g, s.id = some g → n ≤ g) ∧ cs = (curD b c').map V.d ∧ curO b c'
theorem call_row {P : Program} {E : Md} {args : List Operand} {f : FuncId} {rest As : List V} {k : Nat} {dst : Option Tmp} {K : St → Prop} {σ : St} {b : Sl Int} {m : Int} (c : Nat × Int) (hE : E f = true)
    (hc : VX P f [] (.ptr 1000 0 0 :: As) (some ((curD b c).map V.d)) (fun n r cs _ => RowC b m n r cs)) (hvs : args.map σ.ev = .ptr k 0 0 :: rest) (hm : σ.m k = some (.box ((curD b c).map V.d)))
    (hr : rpL σ.m rest = some As) (hk : keysVL rest = [])
    (hK : ∀ (s : Sl Int) c' n hs', σ.hs ≤ n → n ≤ hs' → (s.xs.length : Int) ≤ max m 0 → (∀ g, s.id = some g → n ≤ g ∧ g < hs') → curO b c' → K ({ σ with hs := hs', m := upd σ.m k (some (.box ((curD b c').map V.d))) }.put dst (.d (dSl cI s)))) : vcallA P E f args (.ptr k 0 0 :: rest) dst K σ := by
  refine call_xi hE hvs hm hr (by simp [curD, dSl]) hc fun r cs' ws n hs' h1 h2 h3 h4 h5 h9 => ?_
  obtain ⟨c', s, rfl, h6, h7, rfl, ho⟩ := h3.ex
  have : keysVL rest ++ keysVL ((curD b c).map V.d) = [] := by rw [hk]; simp [curD]
  rw [this]
  exact hK s c' n hs' h1 h2 h6 (fun g hg => ⟨h7 g hg, h9 g (mem_sl_ids.2 (.inl hg))⟩) ho
/-- a row is put into a relation where it belongs -/
def insOk (r : PReln) (row : List Int) : Bool := rowsOk r.ar r.rows && decide ((row.length : Int) = r.ar) && valsOk row && !placeB r.rows row && !decide (r.rows.length = 4000)
def insP (r : PReln) (row : List Int) : PReln := if insOk r row then ⟨r.ar, r.rows.take (placeK r.rows row) ++ row :: r.rows.drop (placeK r.rows row)⟩ else r
section
attribute [local simp] pS dSl cP cI cW
theorem t_spec_l4Row (b : Sl Int) (c : Nat × Int) (n most : Int) (hb : b.xs.length ≤ 1048576) (hc : curO b c) (hn : n ≤ 1000) (hm : most ≤ 1000000000) : VX Try.prog 80 [] [.ptr 1000 0 0, .d (.int .i64 n), .d (.int .i64 most)] (some ((curD b c).map V.d)) (fun m r cs _ => RowC b n m r cs) := by
  refine VX.of E s80 (by kernel_rfl) Try.func80 (by rfl) (by kernel_rfl) (by simp [Try.f80]) (by simp [Try.f80]) s80_ok ?_ ?_ fun B hB => ?_
  · simp
  · rintro cs h
    cases h
    simp [curD]
  simp [Try.f80, curD]
  refine loop_rule (X := (Nat × Int) × List Int) (fun p => curO b p.1 ∧ (p.2.length : Int) ≤ max n 0) (fun p => [(0, .ptr 1000 0 0), (1, .d (.int .i64 n)), (2, .d (.int .i64 most)), (7, .own 8 0 p.2.length)]) (fun p => [(1000, some (.box ((curD b p.1).map V.d))), (8, some (.row 3 1 (p.2.map cI)))]) (fun p => 1000 - p.2.length) (c, []) ⟨hc, by simp; omega⟩ (by simp) (by simp [curD]) ?_
  rintro ⟨c1, l⟩ hs t m ⟨ho, hl⟩ hh
  simp only at ho hl
  by_cases hlt : (l.length : Int) < n
  · have hL : LenOk 8 (l.length + 1) := ⟨by omega, by simp only [maxLen]; omega⟩
    simp [hlt, curD, ]
    refine call_cur c1 E47 (w_spec_l1Below b c1 most hb ho hm) (by simp) (by simp [curD]) (by simp) (by simp) fun r1 c2 hs1 hh1 hq1 hl1 o1 => ?_
    obtain ⟨x, rfl, _⟩ := hq1
    simp [hlt, hL, curD, ]
    exact back (c2, l ++ [x]) ⟨o1, by simp; omega⟩ (by simp; omega) rfl (by simp <;> omega) (by simp) (by simp [curD])
  · simp [hlt, curD, vendX, ]
    intro γ hs' h1 hg
    obtain ⟨q1, q2⟩ := gam_at hg (k := 8) (T := 3) (sz := 1) (es := l.map cI) (by simp)
    clear hg
    exact ⟨⟨c1, ⟨γ 8, some (3, 1), l⟩, by simp [List.take_of_length_le], hl, fun g hg => (q1 g hg).1, by simp [curD], ho⟩⟩
theorem w_spec_InsertRow (r : PReln) (row : List Int) (hb : r.rows.length ≤ 4294967296) (hb2 : ∀ x ∈ r.rows, x.length ≤ 4294967296) (hb3 : row.length ≤ 4294967296) : VC Try.prog 79 [.agg ((eReln r).map V.d), .d (pS cI row)] (fun _ v => v = .tup [.agg ((eReln (insP r row)).map V.d), .d (.bool (insOk r row))]) := by
  obtain ⟨ar, l⟩ := r
  simp only at hb hb2
  refine VC.ofL EP s79 (by kernel_rfl) Try.func79 (by rfl) (by kernel_rfl) (by simp [Try.f79]) (by simp [Try.f79]) s79_ok fun B hl => ?_
  simp [Try.f79, s79_7, s79_7, eReln]
  refine call_p (w_spec_l5Copy ⟨ar, l⟩ hb hb2) (by simp [eReln]) fun hs1 hh1 hl1 => ?_
  simp at hh1
  simp [eReln, s79_7, ]
  refine call_f (w_spec_IsValidRelation ⟨ar, l⟩) (by simp [eReln]) rfl fun hs2 hh2 => ?_
  simp at hh2
  have hno : insOk ⟨ar, l⟩ row = false → insP ⟨ar, l⟩ row = ⟨ar, l⟩ := fun h => by rw [insP, h]; rfl
  cases h1 : rowsOk ar l
  · have h0 : insOk ⟨ar, l⟩ row = false := by simp [insOk, h1]
    simp [hno h0, h0, eReln, s79_7, ]
  by_cases h2 : (row.length : Int) = ar
  case neg =>
    have h0 : insOk ⟨ar, l⟩ row = false := by simp [insOk, h2]
    simp [hno h0, h0, h2, eReln, s79_7, ]
  simp [h2, eReln, s79_7, ]
  refine call_f (w_spec_AreValidValues row) (by simp) rfl fun hs3 hh3 => ?_
  simp at hh3
  cases h3 : valsOk row
  · have h0 : insOk ⟨ar, l⟩ row = false := by simp [insOk, h3]
    simp [hno h0, h0, h2, eReln, s79_7, ]
  simp [h2, eReln, s79_7, ]
  refine call_f (w_spec_l5Place ⟨ar, l⟩ row hb) (by simp [eReln]) rfl fun hs4 hh4 => ?_
  simp at hh4
  have hll := rowsOk_len h1
  have hk := placeK_le l row
  cases h4 : placeB l row
  case true =>
    have h0 : insOk ⟨ar, l⟩ row = false := by simp [insOk, h4]
    simp [hno h0, h0, eReln, s79_7, ]
  by_cases h5 : l.length = 4000
  · have h0 : insOk ⟨ar, l⟩ row = false := by simp [insOk, h5]
    simp [hno h0, h0, h5, eReln, s79_7, ]
  have h5' : ¬ (l.length : Int) = 4000 := by omega
  have h0 : insOk ⟨ar, l⟩ row = true := by simp [insOk, h1, h2, h3, h4, h5]
  obtain ⟨k, hkk⟩ : ∃ k, k = placeK l row := ⟨_, rfl⟩
  rw [← hkk] at hk
  have L0 : LenOk 8 row.length := ⟨by omega, by simp only [maxLen]; omega⟩
  have L1 : LenOk 24 (1 + (l.length - k)) := ⟨by omega, by simp only [maxLen]; omega⟩
  have L2 : LenOk 24 k := ⟨by omega, by simp only [maxLen]; omega⟩
  have L3 : LenOk 24 (k + (1 + (l.length - k))) := ⟨by omega, by simp only [maxLen]; omega⟩
  have hmn : min k l.length = k := by omega
  have a2 : 1 + (l.length - k) = l.length - k + 1 := by omega
  have hP : insP ⟨ar, l⟩ row = ⟨ar, l.take k ++ row :: l.drop k⟩ := by rw [insP, if_pos h0, ← hkk]
  rw [a2] at L1 L3
  simp [h5', a2, hP, h0, ← hkk, hk, L0, L1, L2, L3, hmn, eReln, ← List.map_take, ← List.map_drop, List.take_of_length_le, s79_7, ]
end

end Go.Proofs.Ytepiehnhajnebaa


namespace Go.Proofs.Ytepiehnhajnebaa
open Go.Vs Go.Proofs Go
set_option maxRecDepth 100000
set_option maxHeartbeats 1000000

/-- bounds of a drawn relation -/
def bdR (y : Reln) : Prop := y.rows.xs.length ≤ 5000 ∧ (∀ r ∈ y.rows.xs, r.xs.length ≤ 2000) ∧ y.ar ≤ 1001
/-- what the draw of a relation leaves that need not be right -/
structure RelA (b : Sl Int) (n : Nat) (r : V) (cs : List V) : Prop where
  ex : ∃ (c' : Nat × Int) (y : Reln), r = .agg ((cReln y).map V.d) ∧ (bdR y ∧ ∀ g ∈ idsL (cReln y), n ≤ g) ∧ okReln y ∧ cs = (curD b c').map V.d ∧ curO b c'
theorem call_relA {P : Program} {E : Md} {args : List Operand} {f : FuncId} {rest As : List V} {k : Nat} {dst : Option Tmp} {K : St → Prop} {σ : St} {b : Sl Int} (c : Nat × Int) (hE : E f = true)
    (hc : VX P f [] (.ptr 1000 0 0 :: As) (some ((curD b c).map V.d)) (fun n r cs _ => RelA b n r cs)) (hvs : args.map σ.ev = .ptr k 0 0 :: rest) (hm : σ.m k = some (.box ((curD b c).map V.d)))
    (hr : rpL σ.m rest = some As) (hk : keysVL rest = [])
    (hK : ∀ (y : Reln) c' n hs', σ.hs ≤ n → n ≤ hs' → bdR y → (∀ g ∈ idsL (cReln y), n ≤ g) → okReln y → curO b c' → K ({ σ with hs := hs', m := upd σ.m k (some (.box ((curD b c').map V.d))) }.put dst (.agg ((cReln y).map V.d)))) : vcallA P E f args (.ptr k 0 0 :: rest) dst K σ := by
  refine call_xt hE hvs hm hr (by simp [curD, dSl]) hc fun r cs' ws n hs' h1 h2 h3 h4 h5 => ?_
  obtain ⟨c', y, rfl, h6, h7, rfl, ho⟩ := h3.ex
  have : keysVL rest ++ keysVL ((curD b c).map V.d) = [] := by rw [hk]; simp [curD]
  rw [this]
  exact hK y c' n hs' h1 h2 h6.1 h6.2 h7 ho
theorem ids_rel {y : Reln} {g : Nat} : g ∈ idsL (cReln y) ↔ y.rows.id = some g ∨ g ∈ idsLL (y.rows.xs.map (cS cI)) := by
  rw [cReln, idsL_app, List.mem_append, idsL_cS, mem_sl_ids]
  constructor
  · rintro (h | h)
    · simp [cI, idsL, D.ids] at h
    · exact h
  · exact .inr
section
attribute [local simp] pS dSl cP cI cW
theorem w_spec_l5Any (b : Sl Int) (c : Nat × Int) (hb : b.xs.length ≤ 1048576) (hc : curO b c) : VX Try.prog 60 [] [.ptr 1000 0 0] (some ((curD b c).map V.d)) (fun n r cs _ => RelA b n r cs) := by
  refine VX.of E s60 (by kernel_rfl) Try.func60 (by rfl) (by kernel_rfl) (by simp [Try.f60]) (by simp [Try.f60]) s60_ok ?_ ?_ fun B hB => ?_
  · simp
  · rintro cs h
    cases h
    simp [curD]
  simp [Try.f60, s60_6, s60_9, s60_6, s60_9, curD]
  refine call_cur c E47 (w_spec_l1Below b c 4 hb hc (by omega)) (by simp) (by simp [curD]) (by simp) (by simp) fun r0 c0 hs0 hh0 hq0 hl0 o0 => ?_
  obtain ⟨x, rfl, x0, x1, _⟩ := hq0
  have x1 := x1 (by omega)
  simp [s60_6, s60_9, curD]
  refine call_rel c0 E72 (w_spec_l5Rel b c0 x 6 4 hb o0 (by omega) (by omega) (by omega)) (by simp) (by simp [curD]) (by simp) (by simp) fun y c1 n1 hs1 hn1 hm1 hy1 ly1 ky1 Ty1 Gy1 Iy1 o1 => ?_
  obtain ⟨ya, ⟨rid, rT, rx⟩⟩ := y
  have hB1 : B ≤ n1 := by simp at hn1 hh0; omega
  have hrow := rowsOk_row hy1
  have hmem := fun (r : Ints) (hr : r ∈ rx) => rowsOk_mem hy1 (x := plS plI r) (by simp only [plReln, plS]; exact List.mem_map.2 ⟨r, hr, rfl⟩)
  have har : 0 ≤ ya ∧ ya ≤ 5 := by
    have := rowsOk_inR hy1
    simp only [inR, Bool.and_eq_true, decide_eq_true_eq] at this
    exact this
  have hr5 : ∀ r ∈ rx, (r.xs.length : Int) = ya := fun r hr => by
    have := (hmem r hr).1
    simpa [plReln, plS] using this
  simp only at ly1
  refine forgetG [(0, .ptr 1000 0 0), (2, .ptr 2 0 0), (7, .agg ((cReln ⟨ya, ⟨rid, rT, rx⟩⟩).map V.d))] [(1000, some (.box ((curD b c1).map V.d))), (2, some (.box [.d (.int .i64 0), .d (.sl none none [])]))] (by simp) (by simp [curD]) fun t m => ?_
  simp [cReln, curD, cS, s60_6, s60_9, ]
  refine call_cur c1 E47 (w_spec_l1Below b c1 14 hb o1 (by omega)) (by simp) (by simp [curD]) (by simp) (by simp) fun r2 c2 hs2 hh2 hq2 hl2 o2 => ?_
  obtain ⟨u, rfl, u0, u1, _⟩ := hq2
  have hB2 : n1 ≤ hs2 := by simp at hh2; omega
  refine forgetG [(0, .ptr 1000 0 0), (2, .ptr 2 0 0), (3, .ptr 3 0 0), (9, .d (.int .i64 u))] [(1000, some (.box ((curD b c2).map V.d))), (2, some (.box [.d (.int .i64 0), .d (.sl none none [])])), (3, some (.box ((cReln ⟨ya, ⟨rid, rT, rx⟩⟩).map V.d)))] (by simp) (by simp [curD, cReln, cS]) fun t m => ?_
  have fin : bdR ⟨ya, ⟨rid, rT, rx⟩⟩ := ⟨by simp only; omega, fun r hr => by have := hr5 r hr; omega, by simp only; omega⟩
  have hlo : ∀ (v : Int), ∀ g ∈ idsL (cReln ⟨v, ⟨rid, rT, rx⟩⟩), B ≤ g := fun v g hg => by
    have := Gy1.lo g (ids_rel.2 (ids_rel.1 hg : rid = some g ∨ g ∈ idsLL (rx.map (cS cI))))
    omega
  by_cases e0 : u = 0
  · subst e0
    have hw : IntKind.i64.wrap (ya + 1) = ya + 1 := wrap64_of (by omega) (by omega)
    simp [cReln, curD, cS, hw, s60_6, s60_9, ]
    refine call_curK c2 E34 (w_spec_l1PickInt b c2 [-1, 6, ya + 1] hb o2 (by simp) (by simp)) (by simp) (by simp [curD]) (by simp) fun r3 c3 hs3 hh3 hq3 hl3 o3 => ?_
    obtain ⟨v, rfl, hv⟩ := hq3
    simp only [List.mem_cons, List.not_mem_nil, or_false] at hv
    simp [cReln, curD, cS, vendX, s60_6, s60_9, ]
    intro γ hs' h1 hg
    clear hg
    exact ⟨⟨c3, ⟨v, ⟨rid, rT, rx⟩⟩, by simp [cReln, cS], ⟨⟨fin.1, fin.2.1, by simp only; omega⟩, hlo v⟩, ⟨trivial, ky1.2⟩, by simp [curD], o3⟩⟩
  by_cases e1 : u = 1
  · subst e1
    have hmx : (if 0 < ya then ya else 0) = ya := by split <;> omega
    simp [cReln, curD, cS, hmx, s60_6, s60_9, ]
    repeat' apply And.intro
    all_goals
      refine call_row c2 E80 (t_spec_l4Row b c2 ya 4 hb o2 (by omega) (by omega)) (by simp) (by simp [curD]) (by simp) (by simp) fun row c3 n3 hs3 hn3 hm3 hrow hrid o3 => ?_
      have hn3 : hs2 ≤ n3 := hn3
      obtain ⟨wid, wT, wx⟩ := row
      simp only at hrow hrid
      have L0 : LenOk 24 1 := ⟨by omega, by simp only [maxLen]; omega⟩
      cases rid with
      | none =>
        have h0 : rx = [] := Gy1.wh.2.1.nil rfl
        subst h0
        cases rT
        all_goals
          simp [cReln, curD, cS, L0, vendX, s60_6, s60_9, ]
          intro γ hs' h1 hg
          obtain ⟨q1, q2⟩ := gam_at hg (k := 29) (T := 61) (sz := 1) (es := [[D.sl wid wT (wx.map cI)]]) (by simp)
          clear hg
          exact ⟨⟨c3, ⟨ya, ⟨γ 29, some (61, 1), [(⟨wid, wT, wx⟩ : Sl Int)]⟩⟩, by simp [cReln, cS], ⟨⟨by simp, fun r hr => by rw [List.mem_singleton.1 hr]; simp only; omega, by simp only; omega⟩, fun g hg => by
            rcases ids_rel.1 hg with h | h
            · exact (q1 g h).1
            · rcases mem_sl_ids.1 (show g ∈ (dSl cI (⟨wid, wT, wx⟩ : Sl Int)).ids by simpa [idsLL, idsL_cS] using h) with h | h
              · have := (hrid g h).1; omega
              · simp at h⟩, ⟨trivial, ⟨by simp [maxLen], fun r hr => by rw [List.mem_singleton.1 hr]; exact ⟨by simp only [maxLen]; omega, fun _ _ => trivial⟩⟩⟩, by simp [curD], o3⟩⟩
      | some gr =>
        obtain rfl : rT = some (61, 1) := Ty1 gr rfl
        have G0 := Gy1.nd
        simp only [cReln, idsL_app, idsL_cS] at G0
        have hrB : B ≤ gr := by
          have := Gy1.lo gr (by simp only [cReln, idsL_app, idsL_cS, List.mem_append]; exact .inr (mem_slids (s := (⟨some gr, some (61, 1), rx⟩ : Sl Ints)) rfl))
          omega
        have hrs : gr < hs1 := Iy1 gr (by simp only [cReln, idsL_app, idsL_cS, List.mem_append]; exact .inr (mem_slids (s := (⟨some gr, some (61, 1), rx⟩ : Sl Ints)) rfl))
        have hs12 : hs1 ≤ hs2 := by simpa using hh2
        have f1 : gr ∉ idsLL (rx.map (cS cI)) := by
          have := (List.nodup_append.1 G0).2.1
          simp only [dSl, D.ids, Option.toList] at this
          exact (List.nodup_cons.1 this).1
        have hw0 : gr ∉ (D.sl wid wT (wx.map cI)).ids := fun h => by
          rcases mem_sl_ids.1 (show gr ∈ (dSl cI (⟨wid, wT, wx⟩ : Sl Int)).ids from h) with h | h
          · have := (hrid gr h).1; omega
          · simp at h
        have f0 : gr ∉ idsLL [[D.sl wid wT (wx.map cI)]] := fun h => hw0 (by simpa [idsLL, idsL] using h)
        have kr : ∀ i, i ≠ gr → kphi (some gr) i = none := fun i hi => by simp only [kphi]; rw [if_neg (by simpa using Ne.symm hi)]
        have c1' : reV (kphi (some gr)) (.d (.sl b.id b.T (b.xs.map cW))) = .d (.sl b.id b.T (b.xs.map cW)) := reV_id _ (fun j hj => kr j fun e => by
          have := hB j (.inr (by simpa [curD] using hj))
          omega) (by simp [tkLL_mapW])
        have eR : reLL (kphi (some gr)) (rx.map (cS cI) ++ [[D.sl wid wT (wx.map cI)]]) = some (rx.map (cS cI) ++ [[D.sl wid wT (wx.map cI)]]) := by
          have e : rx.map (cS cI) ++ [[D.sl wid wT (wx.map cI)]] = (rx ++ [(⟨wid, wT, wx⟩ : Sl Int)]).map (cS cI) := by simp [cS, dSl]
          rw [e]
          refine reLL_id _ (ht := tkLL_map _ (by simp)) fun k hk => kr k fun e => ?_
          rw [List.map_append, idsLL_append] at hk
          rcases List.mem_append.1 hk with h | h
          · exact f1 (e ▸ h)
          · exact f0 (e ▸ h)
        have L1 : LenOk 24 (rx.length + 1) := ⟨by omega, by simp only [maxLen]; omega⟩
        simp [cReln, curD, cS, St.kill, hrB, f0, f1, L1, eR, c1', vendX, List.take_of_length_le, s60_6, s60_9, ]
        intro γ hs' h1 hg
        obtain ⟨q1, q2⟩ := gam_at hg (k := 29) (T := 61) (sz := 1) (es := rx.map (cS cI) ++ [[D.sl wid wT (wx.map cI)]]) (by simp)
        clear hg
        exact ⟨⟨c3, ⟨ya, ⟨γ 29, some (61, 1), rx ++ [(⟨wid, wT, wx⟩ : Sl Int)]⟩⟩, by simp [cReln, cS, List.take_of_length_le], ⟨⟨by simp; omega, fun r hr => by
          rcases List.mem_append.1 hr with hr | hr
          · have := hr5 r hr; omega
          · rw [List.mem_singleton.1 hr]; simp only; omega, by simp only; omega⟩, fun g hg => by
          rcases ids_rel.1 hg with h | h
          · exact (q1 g h).1
          · simp only [List.map_append, idsLL_append] at h
            rcases List.mem_append.1 h with h | h
            · exact hlo ya g (ids_rel.2 (.inr h))
            · rcases mem_sl_ids.1 (show g ∈ (dSl cI (⟨wid, wT, wx⟩ : Sl Int)).ids by simpa [idsLL, idsL_cS] using h) with h | h
              · have := (hrid g h).1; omega
              · simp at h⟩, ⟨trivial, ⟨by simp only [maxLen, List.length_append, List.length_cons, List.length_nil]; omega, fun r hr => by
          rcases List.mem_append.1 hr with hr | hr
          · exact ky1.2.2 r hr
          · rw [List.mem_singleton.1 hr]; exact ⟨by simp only [maxLen]; omega, fun _ _ => trivial⟩⟩⟩, by simp [curD], o3⟩⟩
  by_cases e2 : u = 2
  · subst e2
    by_cases hrx : rx = []
    · subst hrx
      simp [cReln, curD, cS, vendX, s60_6, s60_9, ]
      intro γ hs' h1 hg
      clear hg
      exact ⟨⟨c2, ⟨ya, ⟨rid, rT, []⟩⟩, by simp [cReln, cS], ⟨fin, hlo ya⟩, ky1, by simp [curD], o2⟩⟩
    obtain ⟨w0, rx', rfl⟩ := List.exists_cons_of_ne_nil hrx
    by_cases hya : 0 < ya
    · obtain ⟨wid, wT, wx⟩ := w0
      have hwl : (wx.length : Int) = ya := hr5 (⟨wid, wT, wx⟩ : Sl Int) (by simp)
      have hw0 : 0 < wx.length := by omega
      obtain ⟨g0, hg0, T', hT'⟩ := (Sl.wh.id (s := (⟨wid, wT, wx⟩ : Sl Int)) (Gy1.wh.2.2 (⟨wid, wT, wx⟩ : Sl Int) (by simp)).1 hw0)
      simp only at hg0 hT'
      subst hg0 hT'
      have G0 := Gy1.nd
      simp only [cReln, idsL_app, idsL_cS] at G0
      have hin : g0 ∈ idsLL (((⟨some g0, some T', wx⟩ : Sl Int) :: rx').map (cS cI)) := by
        simp only [List.map_cons, idsLL, idsL_cS, List.mem_append]
        exact .inl (mem_slids (s := (⟨some g0, some T', wx⟩ : Sl Int)) rfl)
      have hgB : B ≤ g0 := by
        have := Gy1.lo g0 (by simp only [cReln, idsL_app, idsL_cS, dSl, D.ids, List.mem_append]; exact .inr (.inr hin))
        omega
      have G1 := (List.nodup_append.1 G0).2.1
      simp only [dSl, D.ids] at G1
      have hout : ∀ g, rid = some g → g ≠ g0 := fun g h e => by
        subst h e
        exact (List.nodup_cons.1 G1).1 hin
      have G2 := (List.nodup_append.1 G1).2.1
      have hrest : g0 ∉ idsLL (rx'.map (cS cI)) := fun h => by
        simp only [List.map_cons, idsLL, idsL_cS] at G2
        exact (List.nodup_append.1 G2).2.2 g0 (mem_slids (s := (⟨some g0, some T', wx⟩ : Sl Int)) rfl) g0 h rfl
      have e3 : ∀ d, reV (one g0 d) (.d (.sl b.id b.T (b.xs.map cW))) = .d (.sl b.id b.T (b.xs.map cW)) := fun d => reV_id _ (fun j hj => one_out fun e => by
        have := hB j (.inr (by simpa [curD] using hj))
        omega) (by simp [tkLL_mapW])
      have eLL : ∀ d, reLL (one g0 d) (rx'.map (cS cI)) = some (rx'.map (cS cI)) := fun d => reLL_id _ (ht := tkLL_map _ (by simp)) fun j hj => one_out fun e => hrest (e ▸ hj)
      have e4 : ∀ v, reV (one g0 (.sl (some g0) (some T') ((wx.map cI).set 0 [.int .i64 v]))) (.d (.sl rid rT ([.sl (some g0) (some T') (wx.map cI)] :: rx'.map (cS cI)))) = .d (.sl rid rT ([.sl (some g0) (some T') ((wx.map cI).set 0 [.int .i64 v])] :: rx'.map (cS cI))) := fun v => by
        have h1 : reD (one g0 (.sl (some g0) (some T') ((wx.map cI).set 0 [.int .i64 v]))) (.sl (some g0) (some T') (wx.map cI)) = some (.sl (some g0) (some T') ((wx.map cI).set 0 [.int .i64 v])) := by
          simp only [reD, one, if_true]
          rw [if_pos]
          refine ⟨trivial, rfl, trivial, ?_⟩
          refine List.ext_getElem (by simp) fun n h1 h2 => ?_
          simp only [List.getElem_map]
          by_cases hn : 0 = n
          · subst hn; simp
          · rw [List.getElem_set_ne hn, List.getElem_map]
        have h2 : reLL (one g0 (.sl (some g0) (some T') ((wx.map cI).set 0 [.int .i64 v]))) ([.sl (some g0) (some T') (wx.map cI)] :: rx'.map (cS cI)) = some ([.sl (some g0) (some T') ((wx.map cI).set 0 [.int .i64 v])] :: rx'.map (cS cI)) := by
          simp only [reLL, reL, h1, eLL]
        cases rid with
        | none => simp only [reV, reD, h2, Option.map_some]
        | some gr => simp only [reV, reD, one_out (hout gr rfl), h2, Option.map_some]
      simp [cReln, curD, cS, hya, s60_6, s60_9, ]
      repeat' apply And.intro
      all_goals
        refine call_curK c2 E34 (w_spec_l1PickInt b c2 [-1, 100, 99] hb o2 (by simp) (by simp)) (by simp) (by simp [curD]) (by simp) fun r3 c3 hs3 hh3 hq3 hl3 o3 => ?_
        obtain ⟨v, rfl, hv⟩ := hq3
        simp [cReln, curD, cS, hya, hw0, s60_6, s60_9, ]
        refine ⟨hgB, ?_⟩
        simp [-List.map_set, cS, e3, e4, vendX]
        intro γ hs' h1 hg
        clear hg
        have hidI : ∀ L : List Int, idsLL (L.map cI) = [] := fun L => by simp
        have e5 : (List.map cI wx).set 0 [D.int .i64 v] = List.map cI (wx.set 0 v) := by rw [← set_map]; rfl
        exact ⟨⟨c3, ⟨ya, ⟨rid, rT, (⟨some g0, some T', wx.set 0 v⟩ : Sl Int) :: rx'⟩⟩, by rw [e5]; simp [cReln, cS], ⟨⟨fin.1, fun r hr => by
          rcases List.mem_cons.1 hr with hr | hr
          · rw [hr]; simp; omega
          · exact fin.2.1 r (List.mem_cons_of_mem _ hr), fin.2.2⟩, fun g hg => hlo ya g (by
          refine ids_rel.2 ?_
          have h := ids_rel.1 hg
          simp only [List.map_cons, idsLL, idsL_cS, List.mem_append, mem_sl_ids] at h ⊢
          rcases h with h | (h | h) | h
          · exact .inl h
          · exact .inr (.inl (.inl h))
          · rw [hidI] at h; simp at h
          · exact .inr (.inr h))⟩, ⟨trivial, ⟨ky1.2.1, fun r hr => by
          rcases List.mem_cons.1 hr with hr | hr
          · rw [hr]; exact ⟨by simp [maxLen]; omega, fun _ _ => trivial⟩
          · exact ky1.2.2 r (List.mem_cons_of_mem _ hr)⟩⟩, by simp [curD], o3⟩⟩
    · simp [cReln, curD, cS, hya, vendX, s60_6, s60_9, ]
      intro γ hs' h1 hg
      clear hg
      exact ⟨⟨c2, ⟨ya, ⟨rid, rT, w0 :: rx'⟩⟩, by simp [cReln, cS], ⟨fin, hlo ya⟩, ky1, by simp [curD], o2⟩⟩
  simp [cReln, curD, cS, vendX, e0, e1, e2, s60_6, s60_9, ]
  intro γ hs' h1 hg
  clear hg
  exact ⟨⟨c2, ⟨ya, ⟨rid, rT, rx⟩⟩, by simp [cReln, cS], ⟨fin, hlo ya⟩, ky1, by simp [curD], o2⟩⟩
end

end Go.Proofs.Ytepiehnhajnebaa


namespace Go.Proofs.Ytepiehnhajnebaa
open Go.Vs Go.Proofs Go
set_option maxRecDepth 100000
set_option maxHeartbeats 1000000

/-- bounds of drawn tables and databases -/
def bdT (y : Tab) : Prop := y.name.length ≤ 10 ∧ bdR y.rel
def bdD (z : Db) : Prop := z.tabs.xs.length ≤ 10 ∧ ∀ t ∈ z.tabs.xs, bdT t
/-- what the draw of a database leaves -/
structure DbC (t1 : Nat) (b : Sl Int) (n : Nat) (r : V) (cs : List V) : Prop where
  ex : ∃ (c' : Nat × Int) (z : Db), r = .agg ((cDb z).map V.d) ∧ bdD z ∧ okDb z ∧ (z.tabs.xs.length = 5 ∧ ∃ g, z.tabs.id = some g ∧ n ≤ g ∧ z.tabs.T = some (t1, 3) ∧ g ∉ idsLL (z.tabs.xs.map cTab)) ∧ cs = (curD b c').map V.d ∧ curO b c'
theorem call_db {P : Program} {t1 : Nat} {E : Md} {args : List Operand} {f : FuncId} {rest As : List V} {k : Nat} {dst : Option Tmp} {K : St → Prop} {σ : St} {b : Sl Int} (c : Nat × Int) (hE : E f = true)
    (hc : VX P f [] (.ptr 1000 0 0 :: As) (some ((curD b c).map V.d)) (fun n r cs _ => DbC t1 b n r cs)) (hvs : args.map σ.ev = .ptr k 0 0 :: rest) (hm : σ.m k = some (.box ((curD b c).map V.d)))
    (hr : rpL σ.m rest = some As) (hk : keysVL rest = [])
    (hK : ∀ (xs : List Tab) (g : Nat) c' n hs', σ.hs ≤ n → n ≤ hs' → bdD ⟨⟨some g, some (t1, 3), xs⟩⟩ → okDb ⟨⟨some g, some (t1, 3), xs⟩⟩ → xs.length = 5 → n ≤ g → g < hs' → g ∉ idsLL (xs.map cTab) → curO b c' → K ({ σ with hs := hs', m := upd σ.m k (some (.box ((curD b c').map V.d))) }.put dst (.agg ((cDb ⟨⟨some g, some (t1, 3), xs⟩⟩).map V.d)))) : vcallA P E f args (.ptr k 0 0 :: rest) dst K σ := by
  refine call_xi hE hvs hm hr (by simp [curD, dSl]) hc fun r cs' ws n hs' h1 h2 h3 h4 h5 h9 => ?_
  obtain ⟨c', ⟨⟨id, T, xs⟩⟩, rfl, h6, h7, ⟨hl, g, rfl, hg1, rfl, hg2⟩, rfl, ho⟩ := h3.ex
  have : keysVL rest ++ keysVL ((curD b c).map V.d) = [] := by rw [hk]; simp [curD]
  rw [this]
  exact hK xs g c' n hs' h1 h2 h6 h7 hl hg1 (h9 g (by rw [ids_agg, cDb, idsL_cS]; exact mem_slids (s := (⟨some g, some (t1, 3), xs⟩ : Sl Tab)) rfl)) hg2 ho
/-- the names of drawn tables -/
def nms : List (List UInt8) := [[114], [115], [116], [117], [118]]
theorem nms_len : nms.length = 5 := rfl
theorem nms_one : ∀ s ∈ nms, s.length ≤ 10 := by decide
section
attribute [local simp] pS dSl cP cI cW
theorem w_spec_l6Db (b : Sl Int) (c : Nat × Int) (hb : b.xs.length ≤ 1048576) (hc : curO b c) : VX Try.prog 54 [] [.ptr 1000 0 0] (some ((curD b c).map V.d)) (fun n r cs _ => DbC 68 b n r cs) := by
  refine VX.of E s54 (by kernel_rfl) Try.func54 (by rfl) (by kernel_rfl) (by simp [Try.f54]) (by simp [Try.f54]) s54_ok ?_ ?_ fun B hB => ?_
  · simp
  · rintro cs h
    cases h
    simp [curD]
  simp [Try.f54, s54_13, s54_13, curD]
  refine call_curK c E34 (w_spec_l1PickInt b c [2, 3, 4, 6] hb hc (by simp) (by simp)) (by simp) (by simp [curD]) (by simp) fun r0 c0 hs0 hh0 hq0 hl0 o0 => ?_
  obtain ⟨vv, rfl, hvv⟩ := hq0
  simp only [List.mem_cons, List.not_mem_nil, or_false] at hvv
  simp [s54_13, curD]
  refine loop_ruleL (X := Nat × (Nat × Int) × List Tab) (fun p _ => p.1 ≤ 5 ∧ p.2.2.length = p.1 ∧ curO b p.2.1 ∧ ∀ y ∈ p.2.2, okTab y ∧ bdT y) (fun p => [(0, .ptr 1000 0 0), (2, .ptr 2 0 0), (3, .d (.int .i64 vv)), (4, .ptr 4 0 0), (13, .own 13 0 5), (14, .d (.int .i64 5)), (15, .d (.int .i64 p.1))])
    (fun p => [(1000, some (.box ((curD b p.2.1).map V.d))), (2, some (.box [.d (.sl none none [])])), (4, some (.box [.own 34 0 p.2.2.length])), (13, some (.row 9 1 (nms.map cStr))), (34, some (.row 68 3 (p.2.2.map cTab)))]) (fun p => 5 - p.1) ?_ ?_
  · refine (lead_box 4 0 34 68 3 [.d (.sl none none [])] (by omega) (by omega) (by omega) (by simp) rfl).bind ?_
    rintro _ rfl
    exact Lead.of ⟨(0, c0, []), ⟨by omega, rfl, o0, by simp⟩, rfl, rfl, Nat.le_refl _, by simp, by simp [curD, nms, cStr]⟩
  rintro ⟨i, c1, ys⟩ hs t m ⟨hi, hyl, ho, hy⟩ hh
  simp only at hi hyl ho hy
  by_cases hlt : i < 5
  · have hwi := wr1 (i := i) (by omega)
    have hin : i < nms.length := by rw [nms_len]; exact hlt
    obtain ⟨nm, hnm⟩ : ∃ nm, nm = nms[i] := ⟨_, rfl⟩
    have hnl := nms_one _ (List.getElem_mem hin)
    rw [← hnm] at hnl
    have hL : LenOk 48 (ys.length + 1) := ⟨by omega, by simp only [maxLen]; omega⟩
    refine anyQ2 fun Q => ?_
    have hlz : (i : Int) < 5 := by omega
    by_cases hv : nm = [118]
    · simp [hlt, hlz, hin, ← hnm, hv, curD, cStr, nms_len, s54_13, ]
      refine call_curK c1 E34 (w_spec_l1PickInt b c1 [3, 6, 9] hb ho (by simp) (by simp)) (by simp) (by simp [curD]) (by simp) fun r1 c2 hs1 hh1 hq1 hl1 o1 => ?_
      obtain ⟨w, rfl, hw⟩ := hq1
      simp only [List.mem_cons, List.not_mem_nil, or_false] at hw
      have hh1' : hs ≤ hs1 := hh1
      simp [curD, cStr, s54_13, ]
      refine call_rel c2 E72 (w_spec_l5Rel b c2 3 w vv hb o1 (by omega) (by omega) (by omega)) (by simp) (by simp [curD]) (by simp) (by simp) fun y c3 n3 hs3 hn3 hm3 hy3 ly3 ky3 Ty3 Gy3 Iy3 o3 => ?_
      obtain ⟨ya, ⟨rid, rT, rx⟩⟩ := y
      have hn3' : hs1 ≤ n3 := hn3
      have hrow := rowsOk_row hy3
      have hr5 : ∀ r ∈ rx, r.xs.length ≤ 2000 := fun r hr => by
        have := hrow (plS plI r) (by simp only [plReln, plS]; exact List.mem_map.2 ⟨r, hr, rfl⟩)
        simp only [plS, List.length_map] at this; omega
      simp only at ly3
      have fin : bdR ⟨ya, ⟨rid, rT, rx⟩⟩ := ⟨by simp only; omega, hr5, by simp only; omega⟩
      simp [hL, hwi, cReln, cTab, cS, curD, cStr, List.take_of_length_le, s54_13, ]
      refine back2 (i + 1, c3, ys ++ [(⟨nm, ⟨ya, ⟨rid, rT, rx⟩⟩⟩ : Tab)]) ⟨by simp only; omega, by simp [hyl], o3, fun z hz => ?_⟩ (by simp only; omega) rfl (by simp <;> omega) (by simp) (by simp [curD, cTab, cStr, cReln, cS, hv])
      rcases List.mem_append.1 hz with hz | hz
      · exact hy z hz
      · rw [List.mem_singleton.1 hz]
        exact ⟨⟨show nm.length ≤ maxLen by simp only [maxLen]; omega, ky3⟩, hnl, fin⟩
    · simp [hlt, hlz, hin, ← hnm, hv, curD, cStr, nms_len, s54_13, ]
      refine call_curK c1 E34 (w_spec_l1PickInt b c1 [3, 6, 9] hb ho (by simp) (by simp)) (by simp) (by simp [curD]) (by simp) fun r1 c2 hs1 hh1 hq1 hl1 o1 => ?_
      obtain ⟨w, rfl, hw⟩ := hq1
      simp only [List.mem_cons, List.not_mem_nil, or_false] at hw
      have hh1' : hs ≤ hs1 := hh1
      simp [curD, cStr, s54_13, ]
      refine call_rel c2 E72 (w_spec_l5Rel b c2 2 w vv hb o1 (by omega) (by omega) (by omega)) (by simp) (by simp [curD]) (by simp) (by simp) fun y c3 n3 hs3 hn3 hm3 hy3 ly3 ky3 Ty3 Gy3 Iy3 o3 => ?_
      obtain ⟨ya, ⟨rid, rT, rx⟩⟩ := y
      have hn3' : hs1 ≤ n3 := hn3
      have hrow := rowsOk_row hy3
      have hr5 : ∀ r ∈ rx, r.xs.length ≤ 2000 := fun r hr => by
        have := hrow (plS plI r) (by simp only [plReln, plS]; exact List.mem_map.2 ⟨r, hr, rfl⟩)
        simp only [plS, List.length_map] at this; omega
      simp only at ly3
      have fin : bdR ⟨ya, ⟨rid, rT, rx⟩⟩ := ⟨by simp only; omega, hr5, by simp only; omega⟩
      simp [hL, hwi, cReln, cTab, cS, curD, cStr, List.take_of_length_le, s54_13, ]
      refine back2 (i + 1, c3, ys ++ [(⟨nm, ⟨ya, ⟨rid, rT, rx⟩⟩⟩ : Tab)]) ⟨by simp only; omega, by simp [hyl], o3, fun z hz => ?_⟩ (by simp only; omega) rfl (by simp <;> omega) (by simp) (by simp [curD, cTab, cStr, cReln, cS, hv])
      rcases List.mem_append.1 hz with hz | hz
      · exact hy z hz
      · rw [List.mem_singleton.1 hz]
        exact ⟨⟨show nm.length ≤ maxLen by simp only [maxLen]; omega, ky3⟩, hnl, fin⟩
  · have hlz : ¬ (i : Int) < 5 := by omega
    have hlz' : (5 : Int) ≤ i := by omega
    simp [hlt, hlz, hlz', curD, s54_13, ]
    refine call_cur c1 E57 (w_spec_l1Once b c1 8 hb ho (by omega)) (by simp) (by simp [curD]) (by simp) (by simp) fun r4 c4 hs4 hh4 hq4 hl4 o4 => ?_
    obtain ⟨u, rfl⟩ := hq4
    have hp : hpLL (ys.map cTab) = false := hpLL_map (fun a => by simp) ys
    have hy5 : ys.length = 5 := by omega
    have hyn : ys ≠ [] := fun h => by rw [h] at hy5; simp at hy5
    cases u
    · simp [curD, vendX, hp, List.take_of_length_le, s54_13, ]
      intro γ hs' h1 hg
      obtain ⟨q1, q2⟩ := gam_at hg (k := 34) (T := 68) (sz := 3) (es := ys.map cTab) (by simp)
      have q3 := gam_row hg (k := 34) (T := 68) (sz := 3) (es := ys.map cTab) (by simp)
      clear hg
      obtain ⟨g, hg⟩ := Option.ne_none_iff_exists'.1 (q2 (by simpa using hyn))
      exact ⟨⟨c4, ⟨⟨γ 34, some (68, 3), ys⟩⟩, by simp [cDb, cS, List.take_of_length_le], ⟨by simp only; omega, fun t ht => (hy t ht).2⟩, ⟨by simp only [maxLen]; show ys.length ≤ _; omega, fun t ht => (hy t ht).1⟩, ⟨hy5, g, hg, (q1 g hg).1, rfl, q3 g hg⟩, by simp [curD], o4⟩⟩
    · simp [curD, s54_13, ]
      repeat' apply And.intro
      all_goals
        refine call_cur c4 E47 (w_spec_l1Below b c4 5 hb o4 (by omega)) (by simp) (by simp [curD]) (by simp) (by simp) fun r5 c5 hs5 hh5 hq5 hl5 o5 => ?_
        obtain ⟨x, rfl, x0, x1, _⟩ := hq5
        have x1 := x1 (by omega)
        obtain ⟨k, rfl⟩ : ∃ k : Nat, x = k := ⟨x.toNat, by omega⟩
        have hk : k < ys.length := by omega
        obtain ⟨tk, htk⟩ : ∃ tk, tk = ys[k] := ⟨_, rfl⟩
        obtain ⟨nm, ⟨ta, tr⟩⟩ := tk
        have hl3 : (cTab ys[k]).length = 3 := by rw [← htk]; simp [cTab, cStr, cReln, cS]
        have eSet : (ys.map cTab).set k ((cTab ys[k]).take 2 ++ D.sl none none [] :: (cTab ys[k]).drop 3) = (ys.set k (⟨nm, ⟨ta, nilS⟩⟩ : Tab)).map cTab := by
          rw [List.map_set]
          congr 1
          rw [← htk]
          simp [cTab, cStr, cReln, cS, nilS]
        obtain ⟨zs, hzs⟩ : ∃ zs, zs = ys.set k (⟨nm, ⟨ta, nilS⟩⟩ : Tab) := ⟨_, rfl⟩
        rw [← hzs] at eSet
        have hp' : hpLL (zs.map cTab) = false := hpLL_map (fun a => by simp) zs
        have hz5 : zs.length = ys.length := by rw [hzs]; simp
        have hzn : zs ≠ [] := fun h => by rw [h] at hz5; simp at hz5; omega
        have hyk := hy ys[k] (List.getElem_mem hk)
        have hz : ∀ z ∈ zs, okTab z ∧ bdT z := fun z hz => by
          rw [hzs] at hz
          rcases List.mem_or_eq_of_mem_set hz with hz | hz
          · exact hy z hz
          · rw [hz]
            rw [← htk] at hyk
            exact ⟨⟨hyk.1.1, ⟨trivial, ok_nilS⟩⟩, hyk.2.1, ⟨by simp [nilS], by simp [nilS], hyk.2.2.2.2⟩⟩
        simp [-List.map_set, curD, hk, hl3, eSet, hp', hz5, vendX, List.take_of_length_le, s54_13, ]
        intro γ hs' h1 hg
        obtain ⟨q1, q2⟩ := gam_at hg (k := 34) (T := 68) (sz := 3) (es := zs.map cTab) (by simp)
        have q3 := gam_row hg (k := 34) (T := 68) (sz := 3) (es := zs.map cTab) (by simp)
        clear hg
        obtain ⟨g, hg⟩ := Option.ne_none_iff_exists'.1 (q2 (by simpa using hzn))
        exact ⟨⟨c5, ⟨⟨γ 34, some (68, 3), zs⟩⟩, by simp [cDb, cS, List.take_of_length_le, hz5], ⟨by simp only; omega, fun t ht => (hz t ht).2⟩, ⟨by simp only [maxLen]; show zs.length ≤ _; omega, fun t ht => (hz t ht).1⟩, ⟨by simp only; omega, g, hg, (q1 g hg).1, rfl, q3 g hg⟩, by simp [curD], o5⟩⟩
end

end Go.Proofs.Ytepiehnhajnebaa


namespace Go.Proofs.Ytepiehnhajnebaa
open Go.Vs Go.Proofs Go
set_option maxRecDepth 100000
set_option maxHeartbeats 1000000

/-- what the draw of a database leaves that need not be right -/
structure DbA (b : Sl Int) (r : V) (cs : List V) : Prop where
  ex : ∃ (c' : Nat × Int) (z : Db), r = .agg ((cDb z).map V.d) ∧ bdD z ∧ okDb z ∧ cs = (curD b c').map V.d ∧ curO b c'
theorem call_dbA {P : Program} {E : Md} {args : List Operand} {f : FuncId} {rest As : List V} {k : Nat} {dst : Option Tmp} {K : St → Prop} {σ : St} {b : Sl Int} (c : Nat × Int) (hE : E f = true)
    (hc : VX P f [] (.ptr 1000 0 0 :: As) (some ((curD b c).map V.d)) (fun _ r cs _ => DbA b r cs)) (hvs : args.map σ.ev = .ptr k 0 0 :: rest) (hm : σ.m k = some (.box ((curD b c).map V.d)))
    (hr : rpL σ.m rest = some As) (hk : keysVL rest = [])
    (hK : ∀ (z : Db) c' hs', σ.hs ≤ hs' → bdD z → okDb z → curO b c' → K ({ σ with hs := hs', m := upd σ.m k (some (.box ((curD b c').map V.d))) }.put dst (.agg ((cDb z).map V.d)))) : vcallA P E f args (.ptr k 0 0 :: rest) dst K σ := by
  refine call_xt hE hvs hm hr (by simp [curD, dSl]) hc fun r cs' ws n hs' h1 h2 h3 h4 h5 => ?_
  obtain ⟨c', y, rfl, h6, h7, rfl, ho⟩ := h3.ex
  have : keysVL rest ++ keysVL ((curD b c).map V.d) = [] := by rw [hk]; simp [curD]
  rw [this]
  exact hK y c' hs' (Nat.le_trans h1 h2) h6 h7 ho
theorem cTab_len (t : Tab) : (cTab t).length = 3 := by simp [cTab, cStr, cReln, cS, cI]
theorem re_tabs {g : Nat} {T : TypeId × Nat} {xs ys : List Tab} (h : ys.length = xs.length) : reV (one g (.sl (some g) (some T) (ys.map cTab))) (.d (.sl (some g) (some T) (xs.map cTab))) = .d (.sl (some g) (some T) (ys.map cTab)) := by
  have h1 : reD (one g (.sl (some g) (some T) (ys.map cTab))) (.sl (some g) (some T) (xs.map cTab)) = some (.sl (some g) (some T) (ys.map cTab)) := by
    simp only [reD, one, if_true]
    rw [if_pos]
    refine ⟨trivial, rfl, trivial, ?_⟩
    refine List.ext_getElem (by simp [h]) fun n h1 h2 => ?_
    simp only [List.getElem_map, cTab_len]
  simp only [reV, h1]
section
attribute [local simp] pS dSl cP cI cW
theorem w_spec_l6Any (b : Sl Int) (c : Nat × Int) (hb : b.xs.length ≤ 1048576) (hc : curO b c) : VX Try.prog 33 [] [.ptr 1000 0 0] (some ((curD b c).map V.d)) (fun _ r cs _ => DbA b r cs) := by
  refine VX.of E s33 (by kernel_rfl) Try.func33 (by rfl) (by kernel_rfl) (by simp [Try.f33]) (by simp [Try.f33]) s33_ok ?_ ?_ fun B hB => ?_
  · simp
  · rintro cs h
    cases h
    simp [curD]
  simp [Try.f33, s33_5, s33_7, s33_9, s33_5, s33_7, s33_9, curD]
  refine call_db c E54 (w_spec_l6Db b c hb hc) (by simp) (by simp [curD]) (by simp) (by simp) fun xs g c0 n0 hs0 hn0 hm0 bd0 ok0 len0 hgn hgs hgx o0 => ?_
  have hgB : B ≤ g := by simp at hn0; omega
  have e3 : ∀ d, reV (one g d) (.d (.sl b.id b.T (b.xs.map cW))) = .d (.sl b.id b.T (b.xs.map cW)) := fun d => reV_id _ (fun j hj => one_out fun e => by
    have := hB j (.inr (by simpa [curD] using hj))
    omega) (by simp [tkLL_mapW])
  have c1' : reV (kphi (some g)) (.d (.sl b.id b.T (b.xs.map cW))) = .d (.sl b.id b.T (b.xs.map cW)) := reV_id _ (fun j hj => by
    have := hB j (.inr (by simpa [curD] using hj))
    simp only [kphi]; rw [if_neg (by simp; omega)]) (by simp [tkLL_mapW])
  simp [cDb, cS, curD, s33_5, s33_7, s33_9, ]
  refine call_cur c0 E47 (w_spec_l1Below b c0 5 hb o0 (by omega)) (by simp) (by simp [curD]) (by simp) (by simp) fun r1 c1 hs1 hh1 hq1 hl1 o1 => ?_
  obtain ⟨x, rfl, x0, x1, _⟩ := hq1
  have x1 := x1 (by omega)
  obtain ⟨k, rfl⟩ : ∃ k : Nat, x = k := ⟨x.toNat, by omega⟩
  have hk : k < xs.length := by omega
  simp [cDb, cS, curD, s33_5, s33_7, s33_9, ]
  refine call_cur c1 E47 (w_spec_l1Below b c1 14 hb o1 (by omega)) (by simp) (by simp [curD]) (by simp) (by simp) fun r2 c2 hs2 hh2 hq2 hl2 o2 => ?_
  obtain ⟨u, rfl, u0, u1, _⟩ := hq2
  refine forgetG [(0, .ptr 1000 0 0), (2, .ptr 2 0 0), (3, .ptr 3 0 0), (4, .d (.int .i64 k)), (10, .d (.int .i64 u))] [(1000, some (.box ((curD b c2).map V.d))), (2, some (.box [.d (.sl none none [])])), (3, some (.box ((cDb ⟨⟨some g, some (68, 3), xs⟩⟩).map V.d)))] (by simp) (by simp [curD, cDb, cS]) fun t m => ?_
  obtain ⟨tk, htk⟩ : ∃ tk, tk = xs[k] := ⟨_, rfl⟩
  obtain ⟨nm, ⟨ta, tr⟩⟩ := tk
  have hc3 : (cTab xs[k]).length = 3 := by rw [← htk]; simp [cTab, cStr, cReln, cS]
  have bdk := bd0.2 xs[k] (List.getElem_mem hk)
  have okk := ok0.2 xs[k] (List.getElem_mem hk)
  rw [← htk] at bdk okk
  have wit : ∀ (t' : Tab), (cTab t').length = 3 := fun t' => by simp [cTab, cStr, cReln, cS]
  have fin : ∀ (t' : Tab) , okTab t' → bdT t' → bdD ⟨⟨some g, some (68, 3), xs.set k t'⟩⟩ ∧ okDb ⟨⟨some g, some (68, 3), xs.set k t'⟩⟩ := fun t' h1 h2 => by
    refine ⟨⟨by simp only [List.length_set]; omega, fun t ht => ?_⟩, ⟨by simp only [List.length_set, maxLen]; omega, fun t ht => ?_⟩⟩
    · rcases List.mem_or_eq_of_mem_set ht with ht | ht
      · exact bd0.2 t ht
      · rw [ht]; exact h2
    · rcases List.mem_or_eq_of_mem_set ht with ht | ht
      · exact ok0.2 t ht
      · rw [ht]; exact h1
  have eS : ∀ t' : Tab, (xs.map cTab).set k (cTab t') = (xs.set k t').map cTab := fun t' => by rw [List.map_set]
  by_cases e0 : u = 0
  · subst e0
    simp [cDb, cS, curD, hk, s33_5, s33_7, s33_9, ]
    repeat' apply And.intro
    all_goals
      refine call_curK c2 E31 (w_spec_l1Pick b c2 [[], [82], [97, 98, 99, 100, 101], [97], [122]] hb o2 (by simp) (by simp)) (by simp) (by simp [curD]) (by simp [cStr]) fun r3 c3 hs3 hh3 hq3 hl3 o3 => ?_
      obtain ⟨v, rfl, hv⟩ := hq3
      have hvl : v.length ≤ 10 := by
        have : ∀ x ∈ ([[], [82], [97, 98, 99, 100, 101], [97], [122]] : List (List UInt8)), x.length ≤ 10 := by decide
        exact this v hv
      have eT : D.str v :: (cTab xs[k]).tail = cTab ⟨v, ⟨ta, tr⟩⟩ := by rw [← htk]; simp [cTab, cStr]
      have eR := re_tabs (g := g) (T := (68, 3)) (xs := xs) (ys := xs.set k ⟨v, ⟨ta, tr⟩⟩) (by simp)
      simp [-List.map_set, cDb, cS, curD, hk, hc3, hgB, hgx, eT, eS, eR, e3, vendX, s33_5, s33_7, s33_9, ]
      intro γ hs' h1 hg
      clear hg
      have hf := fin ⟨v, ⟨ta, tr⟩⟩ ⟨show v.length ≤ maxLen by simp only [maxLen]; omega, okk.2⟩ ⟨hvl, bdk.2⟩
      exact ⟨⟨c3, ⟨⟨some g, some (68, 3), xs.set k ⟨v, ⟨ta, tr⟩⟩⟩⟩, by simp [-List.map_set, cDb, cS], hf.1, hf.2, by simp [curD], o3⟩⟩
  by_cases e1 : u = 1
  · subst e1
    simp [cDb, cS, curD, hk, s33_5, s33_7, s33_9, ]
    repeat' apply And.intro
    all_goals
      refine call_relA c2 E60 (w_spec_l5Any b c2 hb o2) (by simp) (by simp [curD]) (by simp) (by simp) fun y c3 n3 hs3 hn3 hm3 bdy idy oky o3 => ?_
      obtain ⟨ya, yr⟩ := y
      have hsn : hs2 ≤ n3 := hn3
      have hgs2 : g < n3 := by
        have h1 : hs0 ≤ hs1 := by simpa using hh1
        have h2 : hs1 ≤ hs2 := by simpa using hh2
        omega
      have hgy1 : ¬ yr.id = some g := fun h => by have := idy g (ids_rel.2 (.inl h)); omega
      have hgy2 : g ∉ idsLL (yr.xs.map (cS cI)) := fun h => by have := idy g (ids_rel.2 (.inr h)); omega
      have eT : (cTab xs[k]).take 1 ++ D.int .i64 ya :: D.sl yr.id yr.T (yr.xs.map (cS cI)) :: (cTab xs[k]).drop 3 = cTab ⟨nm, ⟨ya, yr⟩⟩ := by rw [← htk]; simp [cTab, cStr, cReln, cS]
      have eR := re_tabs (g := g) (T := (68, 3)) (xs := xs) (ys := xs.set k ⟨nm, ⟨ya, yr⟩⟩) (by simp)
      simp [-List.map_set, cReln, cDb, cS, curD, hk, hc3, hgB, hgx, hgy1, hgy2, eT, eS, eR, e3, vendX, s33_5, s33_7, s33_9, ]
      intro γ hs' h1 hg
      clear hg
      have hf := fin ⟨nm, ⟨ya, yr⟩⟩ ⟨okk.1, oky⟩ ⟨bdk.1, bdy⟩
      exact ⟨⟨c3, ⟨⟨some g, some (68, 3), xs.set k ⟨nm, ⟨ya, yr⟩⟩⟩⟩, by simp [-List.map_set, cDb, cS], hf.1, hf.2, by simp [curD], o3⟩⟩
  by_cases e2 : u = 2
  · subst e2
    have L1 : LenOk 48 (xs.length + 1) := ⟨by omega, by simp only [maxLen]; omega⟩
    have hxk : xs[k] = ⟨nm, ⟨ta, tr⟩⟩ := htk.symm
    have hsub : ∀ j, j ∈ idsL (cTab xs[k]) → j ∈ idsLL (xs.map cTab) := fun j hj => by
      have e : xs = xs.take k ++ xs[k] :: xs.drop (k + 1) := by rw [← List.drop_eq_getElem_cons hk, List.take_append_drop]
      rw [e, List.map_append, idsLL_append, List.map_cons]
      simp only [idsLL, List.mem_append]
      exact .inr (.inl hj)
    have f0 : g ∉ idsLL [cTab xs[k]] := fun h => hgx (hsub g (by simpa only [idsLL, List.append_nil] using h))
    rw [hxk] at f0
    have hp0 : hpLL (xs.map cTab) = false := hpLL_map (fun a => by simp) xs
    have eR : reLL (kphi (some g)) (xs.map cTab ++ [cTab ⟨nm, ⟨ta, tr⟩⟩]) = some (xs.map cTab ++ [cTab ⟨nm, ⟨ta, tr⟩⟩]) := by
      have e : xs.map cTab ++ [cTab ⟨nm, ⟨ta, tr⟩⟩] = (xs ++ [(⟨nm, ⟨ta, tr⟩⟩ : Tab)]).map cTab := by simp
      rw [e]
      refine reLL_id _ (ht := tkLL_map _ (by simp)) fun j hj => ?_
      have hne : j ≠ g := fun e => by
        rw [List.map_append, idsLL_append] at hj
        rcases List.mem_append.1 hj with h | h
        · exact hgx (e ▸ h)
        · exact f0 (e ▸ h)
      simp only [kphi]; rw [if_neg (by simpa using Ne.symm hne)]
    have hcT : cTab ⟨nm, ⟨ta, tr⟩⟩ = [.str nm, .int .i64 ta, .sl tr.id tr.T (tr.xs.map (cS cI))] := by simp [cTab, cStr, cReln, cS]
    rw [hcT] at f0 eR
    simp [cDb, cS, curD, hk, hxk, hcT, St.kill, hgB, hgx, f0, L1, eR, c1', vendX, List.take_of_length_le, s33_5, s33_7, s33_9, ]
    refine ⟨fun a _ => cTab_len a, fun γ hs' h1 hg => ?_⟩
    clear hg
    exact ⟨⟨c2, ⟨⟨γ 40, some (68, 3), xs ++ [(⟨nm, ⟨ta, tr⟩⟩ : Tab)]⟩⟩, by simp [cDb, cS, hcT], ⟨by simp; omega, fun t ht => by
      rcases List.mem_append.1 ht with ht | ht
      · exact bd0.2 t ht
      · rw [List.mem_singleton.1 ht]; exact bdk⟩, ⟨by simp [maxLen]; omega, fun t ht => by
      rcases List.mem_append.1 ht with ht | ht
      · exact ok0.2 t ht
      · rw [List.mem_singleton.1 ht]; exact okk⟩, by simp [curD], o2⟩⟩
  by_cases e3' : u = 3
  · subst e3'
    simp [cDb, cS, curD, hk, vendX, s33_5, s33_7, s33_9, ]
    refine ⟨⟨by omega, fun a _ => cTab_len a⟩, fun γ hs' h1 hg => ?_⟩
    clear hg
    exact ⟨⟨c2, ⟨⟨some g, none, xs.take k⟩⟩, by simp [cDb, cS, List.map_take], ⟨by simp; omega, fun t ht => bd0.2 t (List.mem_of_mem_take ht)⟩, ⟨by simp [maxLen]; omega, fun t ht => ok0.2 t (List.mem_of_mem_take ht)⟩, by simp [curD], o2⟩⟩
  simp [cDb, curD, cS, vendX, e0, e1, e2, e3', s33_5, s33_7, s33_9, ]
  intro γ hs' h1 hg
  clear hg
  exact ⟨⟨c2, ⟨⟨some g, some (68, 3), xs⟩⟩, by simp [cDb, cS], bd0, ok0, by simp [curD], o2⟩⟩
end

end Go.Proofs.Ytepiehnhajnebaa


namespace Go.Proofs.Ytepiehnhajnebaa
open Go.Vs Go.Proofs Go
set_option maxRecDepth 100000
set_option maxHeartbeats 1000000

/-- bounds of drawn deltas, and of databases known by elements -/
def bdX (x : Delta) : Prop := x.name.length ≤ 10 ∧ bdR x.ins ∧ bdR x.del
def bdPd (d : PDb) : Prop := d.tabs.length ≤ 10 ∧ ∀ t ∈ d.tabs, t.name.length ≤ 10 ∧ t.rel.rows.length ≤ 5000 ∧ (∀ r ∈ t.rel.rows, r.length ≤ 2000) ∧ t.rel.ar ≤ 1001
theorem bdPd_of {z : Db} (h : bdD z) : bdPd (plDb z) := by
  refine ⟨by simpa [plDb, plS] using h.1, fun t ht => ?_⟩
  simp only [plDb, plS] at ht
  obtain ⟨u, hu, rfl⟩ := List.mem_map.1 ht
  have hb := h.2 u hu
  refine ⟨hb.1, by simpa [plTab, plReln, plS] using hb.2.1, fun r hr => ?_, hb.2.2.2⟩
  simp only [plTab, plReln, plS] at hr
  obtain ⟨v, hv, rfl⟩ := List.mem_map.1 hr
  have := hb.2.2.1 v hv
  have e : (plS plI v).length = v.xs.length := by simp only [plS, List.length_map]
  omega
theorem ok_of_pl {y : Reln} {P : PReln} (h : plReln y = P) (h1 : P.rows.length ≤ 5000) (h2 : ∀ x ∈ P.rows, x.length ≤ 2000) (h3 : P.ar ≤ 1001) : bdR y ∧ okReln y := by
  subst h
  have e1 : y.rows.xs.length ≤ 5000 := by simpa [plReln, plS] using h1
  have e2 : ∀ r ∈ y.rows.xs, r.xs.length ≤ 2000 := fun r hr => by
    have := h2 (plS plI r) (by simp only [plReln, plS]; exact List.mem_map.2 ⟨r, hr, rfl⟩)
    have e : (plS plI r).length = r.xs.length := by simp only [plS, List.length_map]
    omega
  exact ⟨⟨e1, e2, h3⟩, trivial, by simp only [maxLen]; omega, fun r hr => ⟨by have := e2 r hr; simp only [maxLen]; omega, fun _ _ => trivial⟩⟩
theorem insP_bd {r : PReln} {row : List Int} (h1 : r.rows.length ≤ 5000) (h2 : ∀ x ∈ r.rows, x.length ≤ 2000) (h3 : row.length ≤ 2000) : (insP r row).rows.length ≤ 5000 ∧ (∀ x ∈ (insP r row).rows, x.length ≤ 2000) ∧ (insP r row).ar = r.ar := by
  rw [insP]
  split
  · rename_i h
    simp only [insOk, Bool.and_eq_true, Bool.not_eq_true', decide_eq_false_iff_not, decide_eq_true_eq] at h
    have hl := rowsOk_len h.1.1.1.1
    have hne := h.2
    refine ⟨?_, fun x hx => ?_, rfl⟩
    · simp only [List.length_append, List.length_take, List.length_cons, List.length_drop]; omega
    · rcases List.mem_append.1 hx with hx | hx
      · exact h2 x (List.mem_of_mem_take hx)
      · rcases List.mem_cons.1 hx with hx | hx
        · rw [hx]; exact h3
        · exact h2 x (List.mem_of_mem_drop hx)
  · exact ⟨h1, h2, rfl⟩
/-- what the draw of a delta leaves -/
structure DelA (b : Sl Int) (r : V) (cs : List V) : Prop where
  ex : ∃ (c' : Nat × Int) (z : Delta), r = .agg ((cDelta z).map V.d) ∧ bdX z ∧ okDelta z ∧ cs = (curD b c').map V.d ∧ curO b c'
theorem call_del {P : Program} {E : Md} {args : List Operand} {f : FuncId} {rest As : List V} {k : Nat} {dst : Option Tmp} {K : St → Prop} {σ : St} {b : Sl Int} (c : Nat × Int) (hE : E f = true)
    (hc : VX P f [] (.ptr 1000 0 0 :: As) (some ((curD b c).map V.d)) (fun _ r cs _ => DelA b r cs)) (hvs : args.map σ.ev = .ptr k 0 0 :: rest) (hm : σ.m k = some (.box ((curD b c).map V.d)))
    (hr : rpL σ.m rest = some As) (hk : keysVL rest = [])
    (hK : ∀ (z : Delta) c' hs', σ.hs ≤ hs' → bdX z → okDelta z → curO b c' → K ({ σ with hs := hs', m := upd σ.m k (some (.box ((curD b c').map V.d))) }.put dst (.agg ((cDelta z).map V.d)))) : vcallA P E f args (.ptr k 0 0 :: rest) dst K σ := by
  refine call_xt hE hvs hm hr (by simp [curD, dSl]) hc fun r cs' ws n hs' h1 h2 h3 h4 h5 => ?_
  obtain ⟨c', y, rfl, h6, h7, rfl, ho⟩ := h3.ex
  have : keysVL rest ++ keysVL ((curD b c).map V.d) = [] := by rw [hk]; simp [curD]
  rw [this]
  exact hK y c' hs' (Nat.le_trans h1 h2) h6 h7 ho
section
attribute [local simp] pS dSl cP cI cW
theorem w_spec_l26Delta (b : Sl Int) (c : Nat × Int) (d : PDb) (hb : b.xs.length ≤ 1048576) (hc : curO b c) (hd : bdPd d) : VX Try.prog 56 [] [.ptr 1000 0 0, .agg ((eDb d).map V.d)] (some ((curD b c).map V.d)) (fun _ r cs _ => DelA b r cs) := by
  obtain ⟨l⟩ := d
  obtain ⟨hd1, hd2⟩ := hd
  simp only at hd1 hd2
  refine VX.of E s56 (by kernel_rfl) Try.func56 (by rfl) (by kernel_rfl) (by simp [Try.f56]) (by simp [Try.f56]) s56_ok ?_ ?_ fun B hB => ?_
  · simp
  · rintro cs h
    cases h
    simp [curD]
  by_cases hl0 : l = []
  · subst hl0
    simp [Try.f56, s56_3, s56_5, s56_10, s56_3, s56_5, s56_10, curD, eDb, vendX]
    intro γ hs' h1 hg
    clear hg
    exact ⟨⟨c, ⟨[114], ⟨0, nilS⟩, ⟨0, nilS⟩⟩, by simp [cDelta, cStr, cReln, cS, nilS], ⟨by simp, ⟨by simp [nilS], by simp [nilS], by simp⟩, ⟨by simp [nilS], by simp [nilS], by simp⟩⟩, ⟨by simp [okStr, maxLen], ⟨trivial, ok_nilS⟩, ⟨trivial, ok_nilS⟩⟩, by simp [curD], hc⟩⟩
  have hlp : 0 < l.length := List.length_pos_iff.2 hl0
  have hl0' : ¬ (l.length : Int) = 0 := by omega
  simp [Try.f56, s56_10, s56_10, curD, eDb, hl0, hl0']
  refine cutT (X := (Nat × Int) × PTab) (fun p _ => curO b p.1 ∧ p.2 ∈ l) (fun p => [(0, .ptr 1000 0 0), (4, .ptr 4 0 0), (5, .ptr 5 0 0)]) (fun p => [(1000, some (.box ((curD b p.1).map V.d))), (4, some (.box [.d (.str []), .d (.int .i64 0), .d (.sl none none []), .d (.int .i64 0), .d (.sl none none [])])), (5, some (.box ((eTab p.2).map V.d)))]) ?_ ?_
  · intro K hK
    simp [curD, eDb, s56_3, ]
    repeat' apply And.intro
    all_goals
      refine call_cur c E47 (w_spec_l1Below b c l.length hb hc (by omega)) (by simp) (by simp [curD]) (by simp) (by simp) fun r1 c1 hs1 hh1 hq1 hl1 o1 => ?_
      obtain ⟨x, rfl, x0, x1, _⟩ := hq1
      have x1 := x1 (by omega)
      obtain ⟨k, rfl⟩ : ∃ k : Nat, x = k := ⟨x.toNat, by omega⟩
      have hk : k < l.length := by omega
      have hm := List.getElem_mem hk
      obtain ⟨tn, ta, tr, hT⟩ : ∃ tn ta tr, l[k] = ⟨tn, ⟨ta, tr⟩⟩ := ⟨_, _, _, rfl⟩
      rw [hT] at hm
      simp [curD, eDb, hk, hT, eTab, eReln, cStr, s56_3, ]
      repeat' apply And.intro
      all_goals exact hK (c1, ⟨tn, ⟨ta, tr⟩⟩) _ ⟨o1, hm⟩ rfl rfl (by simpa using hh1) (by simp) (by simp [curD, eTab, eReln, cStr])
  rintro ⟨c1, ⟨tn, ⟨ta, tr⟩⟩⟩ hs1 t m ⟨o1, hm⟩ hh1
  obtain ⟨tb1, tb2, tb3, tb4⟩ := hd2 _ hm
  simp only at o1 tb1 tb2 tb3 tb4
  obtain ⟨N, hN⟩ : ∃ N : Int, N = (if 0 < if ta < 5 then ta else 5 then if ta < 5 then ta else 5 else 0) := ⟨_, rfl⟩
  have hN5 : N ≤ 5 := by rw [hN]; (repeat' split) <;> omega
  simp [curD, eTab, eReln, cStr, ← hN, s56_10, ]
  refine cutT (X := (Nat × Int) × Reln × Reln) (fun p _ => curO b p.1 ∧ (bdR p.2.1 ∧ okReln p.2.1) ∧ bdR p.2.2 ∧ okReln p.2.2) (fun p => [(0, .ptr 1000 0 0), (4, .ptr 4 0 0), (5, .ptr 5 0 0), (6, .d (.int .i64 N)), (7, .ptr 7 0 0)]) (fun p => [(1000, some (.box ((curD b p.1).map V.d))), (4, some (.box [.d (.str []), .d (.int .i64 0), .d (.sl none none []), .d (.int .i64 0), .d (.sl none none [])])), (5, some (.box ((eTab ⟨tn, ⟨ta, tr⟩⟩).map V.d))), (7, some (.box ((cDelta ⟨tn, p.2.1, p.2.2⟩).map V.d)))]) ?_ ?_
  · intro K hK
    have bdc : ∀ (y : Reln), rowsOk (plReln y).ar (plReln y).rows = true → (y.rows.xs.length ≤ 1000 ∧ y.ar ≤ 1000) → bdR y := fun y h1 h2 => by
      have hrow := rowsOk_row h1
      refine ⟨by omega, fun r hr => ?_, by omega⟩
      have := hrow (plS plI r) (by simp only [plReln, plS]; exact List.mem_map.2 ⟨r, hr, rfl⟩)
      simp only [plS, List.length_map] at this; omega
    simp [curD, eTab, eReln, cStr, s56_5, ]
    repeat' apply And.intro
    all_goals
      refine call_rel c1 E72 (w_spec_l5Rel b c1 N 3 4 hb o1 (by omega) (by omega) (by omega)) (by simp) (by simp [curD]) (by simp) (by simp) fun y c2 n2 hs2 hn2 hm2 hy2 ly2 ky2 Ty2 Gy2 Iy2 o2 => ?_
      have by2 := bdc y hy2 ly2
      have hn2' : hs1 ≤ n2 := hn2
      obtain ⟨ya, yr⟩ := y
      simp [cReln, cS, curD, eTab, eReln, cStr, s56_5, ]
      repeat' apply And.intro
      all_goals
        refine call_rel c2 E72 (w_spec_l5Rel b c2 N 2 4 hb o2 (by omega) (by omega) (by omega)) (by simp) (by simp [curD]) (by simp) (by simp) fun z c3 n3 hs3 hn3 hm3 hy3 ly3 ky3 Ty3 Gy3 Iy3 o3 => ?_
        have by3 := bdc z hy3 ly3
        have hn3' : hs2 ≤ n3 := hn3
        obtain ⟨za, zr⟩ := z
        simp [cReln, cS, curD, eTab, eReln, cStr, s56_5, ]
        repeat' apply And.intro
        all_goals exact hK (c3, ⟨ya, yr⟩, ⟨za, zr⟩) _ ⟨o3, ⟨by2, ky2⟩, by3, ky3⟩ rfl rfl (by simp <;> omega) (by simp) (by simp [curD, eTab, eReln, cStr, cDelta, cReln, cS])
  rintro ⟨c2, ⟨ya, yr⟩, ⟨za, zr⟩⟩ hs2 t m ⟨o2, ⟨by2, ky2⟩, by3, ky3⟩ hh2
  simp only at o2 by2 ky2 by3 ky3
  simp [curD, eTab, eReln, cStr, cDelta, cReln, cS, s56_10, ]
  refine loop_rule (X := Nat × (Nat × Int) × Reln) (fun p => p.1 ≤ tr.length ∧ curO b p.2.1 ∧ bdR p.2.2 ∧ okReln p.2.2) (fun p => [(0, .ptr 1000 0 0), (4, .ptr 4 0 0), (5, .ptr 5 0 0), (6, .d (.int .i64 N)), (7, .ptr 7 0 0), (8, .d (.int .i64 p.1))]) (fun p => [(1000, some (.box ((curD b p.2.1).map V.d))), (4, some (.box [.d (.str []), .d (.int .i64 0), .d (.sl none none []), .d (.int .i64 0), .d (.sl none none [])])), (5, some (.box ((eTab ⟨tn, ⟨ta, tr⟩⟩).map V.d))), (7, some (.box ((cDelta ⟨tn, ⟨ya, yr⟩, p.2.2⟩).map V.d)))]) (fun p => tr.length - p.1) (0, c2, ⟨za, zr⟩) ⟨by simp, o2, by3, ky3⟩ (by simp) (by simp [curD, eTab, eReln, cStr, cDelta, cReln, cS]) ?_
  rintro ⟨i, c3, ⟨za, zr⟩⟩ hs t m ⟨hi, o3, bz, kz⟩ hh
  simp only at hi o3 bz kz
  by_cases hlt : i < tr.length
  · have hwi := wr1 (i := i) (by omega)
    have hri := tb3 _ (List.getElem_mem hlt)
    refine anyQ fun Q => ?_
    simp [hlt, curD, eTab, eReln, cStr, cDelta, cReln, cS, s56_10, ]
    refine call_cur c3 E57 (w_spec_l1Once b c3 3 hb o3 (by omega)) (by simp) (by simp [curD]) (by simp) (by simp) fun r4 c4 hs4 hh4 hq4 hl4 o4 => ?_
    obtain ⟨u, rfl⟩ := hq4
    have hh4' : hs ≤ hs4 := hh4
    have fin : ∀ (hs' : Nat) (t : Nat → V) (m : Nat → Option Blk), True := fun _ _ _ => trivial
    cases u
    · simp [hlt, hwi, curD, s56_10, ]
      exact back (i + 1, c4, ⟨za, zr⟩) ⟨by simp only; omega, o4, bz, kz⟩ (by simp only; omega) rfl (by simp <;> omega) (by simp) (by simp [curD, eTab, eReln, cStr, cDelta, cReln, cS])
    by_cases hrn : (tr[i].length : Int) = N
    case neg =>
      simp [hlt, hrn, hwi, curD, s56_10, ]
      exact back (i + 1, c4, ⟨za, zr⟩) ⟨by simp only; omega, o4, bz, kz⟩ (by simp only; omega) rfl (by simp <;> omega) (by simp) (by simp [curD, eTab, eReln, cStr, cDelta, cReln, cS])
    simp [hlt, hrn, hwi, curD, s56_10, ]
    have bP1 : (plReln ⟨za, zr⟩).rows.length ≤ 5000 := by
      have e : (plReln ⟨za, zr⟩).rows.length = zr.xs.length := by simp only [plReln, plS, List.length_map]
      have := bz.1; simp only at this; omega
    have bP2 : ∀ x ∈ (plReln ⟨za, zr⟩).rows, x.length ≤ 2000 := fun x hx => by
      simp only [plReln, plS] at hx
      obtain ⟨v, hv, rfl⟩ := List.mem_map.1 hx
      have := bz.2.1 v hv
      have e : (plS plI v).length = v.xs.length := by simp only [plS, List.length_map]
      have e' : (List.map plI v.xs).length = v.xs.length := List.length_map ..
      first | omega | (simp only [plS] at *; omega)
    have hib := insP_bd bP1 bP2 hri
    refine call_some (VC.track (w_spec_InsertRow (plReln ⟨za, zr⟩) tr[i] (by omega) (fun x hx => by have := bP2 x hx; omega) (by omega)) (by simp [eReln, plReln, plS, plI_id, map_plI, erLL_map (er_cS er_cI)]) (by simp [V.pn, pnVL, eReln])) (by simp) (by simp) fun n5 hs5 r5 hn5 hm5 hp5 hr5 => ?_
    obtain ⟨hq5, ht5⟩ := hp5
    obtain ⟨w0, w1, rfl, q0, q1, t0, t1⟩ := rp_tup2 hq5 ht5
    obtain ⟨y5, rfl, py5⟩ := rp_agg tk_Reln q0 t0
    obtain rfl := rp_flat q1 rfl
    obtain ⟨by5, ky5⟩ := ok_of_pl py5 hib.1 hib.2.1 (by rw [hib.2.2]; exact bz.2.2)
    obtain ⟨wa, wr⟩ := y5
    have hn5' : hs4 ≤ n5 := hn5
    simp [hlt, hwi, cReln, cS, curD, s56_10, ]
    exact back (i + 1, c4, ⟨wa, wr⟩) ⟨by simp only; omega, o4, by5, ky5⟩ (by simp only; omega) rfl (by simp <;> omega) (by simp) (by simp [curD, eTab, eReln, cStr, cDelta, cReln, cS])
  · simp [hlt, curD, eTab, eReln, cStr, cDelta, cReln, cS, s56_10, ]
    refine call_cur c3 E47 (w_spec_l1Below b c3 14 hb o3 (by omega)) (by simp) (by simp [curD]) (by simp) (by simp) fun r4 c4 hs4 hh4 hq4 hl4 o4 => ?_
    obtain ⟨u, rfl, u0, u1, _⟩ := hq4
    refine forgetG [(0, .ptr 1000 0 0), (4, .ptr 4 0 0), (7, .ptr 7 0 0), (72, .d (.int .i64 u))] [(1000, some (.box ((curD b c4).map V.d))), (4, some (.box [.d (.str []), .d (.int .i64 0), .d (.sl none none []), .d (.int .i64 0), .d (.sl none none [])])), (7, some (.box ((cDelta ⟨tn, ⟨ya, yr⟩, ⟨za, zr⟩⟩).map V.d)))] (by simp) (by simp [curD, cDelta, cReln, cS, cStr]) fun t m => ?_
    have okn : ∀ s : List UInt8, s.length ≤ 10 → okStr s := fun s hs => by show s.length ≤ maxLen; simp only [maxLen]; omega
    by_cases e0 : u = 0
    · subst e0
      simp [curD, cDelta, cReln, cS, cStr, s56_10, ]
      refine call_curK c4 E31 (w_spec_l1Pick b c4 [[], [119], [115]] hb o4 (by simp) (by simp)) (by simp) (by simp [curD]) (by simp [cStr]) fun r5 c5 hs5 hh5 hq5 hl5 o5 => ?_
      obtain ⟨v, rfl, hv⟩ := hq5
      have hvl : v.length ≤ 10 := by
        have : ∀ x ∈ ([[], [119], [115]] : List (List UInt8)), x.length ≤ 10 := by decide
        exact this v hv
      simp [curD, cDelta, cReln, cS, cStr, vendX, s56_10, ]
      intro γ hs' h1 hg
      clear hg
      exact ⟨⟨c5, ⟨v, ⟨ya, yr⟩, ⟨za, zr⟩⟩, by simp [cDelta, cReln, cS, cStr], ⟨hvl, by2, bz⟩, ⟨okn v hvl, ky2, kz⟩, by simp [curD], o5⟩⟩
    by_cases e1 : u = 1
    · subst e1
      simp [curD, cDelta, cReln, cS, cStr, s56_10, ]
      refine call_relA c4 E60 (w_spec_l5Any b c4 hb o4) (by simp) (by simp [curD]) (by simp) (by simp) fun y c5 n5 hs5 hn5 hm5 bdy idy oky o5 => ?_
      obtain ⟨wa, wr⟩ := y
      simp [curD, cDelta, cReln, cS, cStr, vendX, s56_10, ]
      intro γ hs' h1 hg
      clear hg
      exact ⟨⟨c5, ⟨tn, ⟨wa, wr⟩, ⟨za, zr⟩⟩, by simp [cDelta, cReln, cS, cStr], ⟨tb1, bdy, bz⟩, ⟨okn tn tb1, oky, kz⟩, by simp [curD], o5⟩⟩
    simp [curD, cDelta, cReln, cS, cStr, vendX, e0, e1, s56_10, ]
    intro γ hs' h1 hg
    clear hg
    exact ⟨⟨c4, ⟨tn, ⟨ya, yr⟩, ⟨za, zr⟩⟩, by simp [cDelta, cReln, cS, cStr], ⟨tb1, by2, bz⟩, ⟨okn tn tb1, ky2, kz⟩, by simp [curD], o4⟩⟩
end

end Go.Proofs.Ytepiehnhajnebaa


namespace Go.Proofs.Ytepiehnhajnebaa
open Go.Vs Go.Proofs Go
set_option maxRecDepth 100000
set_option maxHeartbeats 1000000

section
attribute [local simp] pS dSl cP cI cW
theorem er_tabs (l : List Tab) : erLL (l.map cTab) = (l.map plTab).map eTab := erLL_map er_cTab l
end

end Go.Proofs.Ytepiehnhajnebaa


namespace Go.Proofs.Ytepiehnhajnebaa
open Go.Vs Go.Proofs Go
set_option maxRecDepth 100000
set_option maxHeartbeats 1000000

section
attribute [local simp] pS cP cI
end

end Go.Proofs.Ytepiehnhajnebaa


namespace Go.Proofs.Ytepiehnhajnebaa
open Go.Vs Go.Proofs Go
set_option maxRecDepth 100000
set_option maxHeartbeats 1000000

section
attribute [local simp] pS dSl cP cI cW
/-- a call that is handed the cursor; its result and the cursor are known by a property -/
theorem call_cp {P : Program} {E : Md} {args : List Operand} {f : FuncId} {rest As : List V} {k : Nat} {dst : Option Tmp} {K : St → Prop} {σ : St} {b : Sl Int} {post : V → List V → Prop} (c : Nat × Int) (hE : E f = true)
    (hc : VX P f [] (.ptr 1000 0 0 :: As) (some ((curD b c).map V.d)) (fun _ r cs _ => post r cs)) (hvs : args.map σ.ev = .ptr k 0 0 :: rest) (hm : σ.m k = some (.box ((curD b c).map V.d)))
    (hr : rpL σ.m rest = some As) (hk : keysVL rest = [])
    (hK : ∀ r cs hs', σ.hs ≤ hs' → post r cs → K ({ σ with hs := hs', m := upd σ.m k (some (.box cs)) }.put dst r)) : vcallA P E f args (.ptr k 0 0 :: rest) dst K σ := by
  refine call_xt hE hvs hm hr (by simp [curD, dSl]) hc fun r cs' ws n hs' h1 h2 h3 h4 h5 => ?_
  have : keysVL rest ++ keysVL ((curD b c).map V.d) = [] := by rw [hk]; simp [curD]
  rw [this]
  exact hK r cs' hs' (Nat.le_trans h1 h2) h3
end

end Go.Proofs.Ytepiehnhajnebaa


namespace Go.Proofs.Ytepiehnhajnebaa
open Go.Vs Go.Proofs Go
set_option maxRecDepth 100000
set_option maxHeartbeats 1000000

theorem hpLL_eF : ∀ l : List PFile, hpLL (l.map eFile) = false
  | [] => rfl
  | f :: l => by simp [hpLL, hpL, D.hp, eFile, cStr, hpLL_eF l]
def FrF (n : Nat) (g : Option Nat) (l : List PFile) : Prop := (∀ i, g = some i → n ≤ i) ∧ (l ≠ [] → g ≠ none)
section
attribute [local simp] plI_id plStr_id map_plI map_plStr pS cP cI cStr cU8 cB eDisk eFile eTab eReln eDb
theorem e_spec_WriteFile (k : List PFile) (nm data : List UInt8) (hb : k.length ≤ 4294967296) : VC Try.prog 51 [.agg ((eDisk ⟨k⟩).map V.d), .d (.str nm), .d (.str data)] (fun n r => ∃ g : Option Nat, r = .agg [.d (.sl g (some (34, 2)) ((wrF k ⟨nm, data⟩).map eFile))] ∧ FrF n g (wrF k ⟨nm, data⟩)) := by
  refine VC.of E s51 (by kernel_rfl) Try.func51 (by rfl) (by kernel_rfl) (by simp [Try.f51]) (by simp [Try.f51]) s51_ok fun B => ?_
  simp [Try.f51, ]
  refine loop_ruleL (X := Nat × Bool × List PFile) (fun p _ => WrI k ⟨nm, data⟩ p) (fun p => [(1, .d (.str nm)), (2, .d (.str data)), (3, .ptr 3 0 0), (6, .ptr 6 0 0), (7, .ptr 7 0 0), (8, .d (.bool p.2.1)), (9, .d (.int .i64 p.1))]) (fun p => [(3, some (.box [.d (.pl (k.map eFile))])), (6, some (.box [.d (.sl none none [])])), (7, some (.box [.own 900 0 p.2.2.length])), (900, some (.row 34 2 (p.2.2.map eFile)))]) (fun p => k.length - p.1) ?_ ?_
  · refine (lead_box 7 0 900 34 2 [.d (.sl none none [])] (by omega) (by omega) (by omega) (by simp) rfl).bind ?_
    rintro _ rfl
    exact Lead.of ⟨(0, false, []), .zero, rfl, rfl, Nat.le_refl _, by simp, by simp⟩
  rintro ⟨i, b, out⟩ hs t m hI hh
  have hle := hI.le
  have hol := hI.len
  simp only at hle hol
  have hol2 : out.length ≤ i + 1 := by cases b <;> simp at hol <;> omega
  by_cases hlt : i < k.length
  · have hwi := wr1 (i := i) (by omega)
    have hstp := hI.step hlt
    have hL1 : LenOk 32 (out.length + 1) := ⟨by omega, by simp only [maxLen]; omega⟩
    have hL2 : LenOk 32 (out.length + 1 + 1) := ⟨by omega, by simp only [maxLen]; omega⟩
    obtain ⟨fn, fd, hf⟩ : ∃ fn fd, k[i] = ⟨fn, fd⟩ := ⟨_, _, rfl⟩
    rw [hf] at hstp
    simp only at hstp
    refine anyQ2 fun Q => ?_
    cases b <;> cases e : Op.bytesLess fn nm <;> by_cases e2 : fn = nm <;> (try rw [e2] at hf e hstp) <;> simp only [e, e2, if_true, if_false, Bool.not_true, Bool.not_false, Bool.and_true, Bool.and_false, Bool.true_and, Bool.false_and, Bool.or_true, Bool.or_false, Bool.true_or, Bool.false_or, List.nil_append, List.append_nil, reduceCtorEq, List.append_assoc, List.cons_append] at hstp
    all_goals
      simp [hlt, hf, e, e2, hwi, hL1, hL2, List.take_of_length_le, ]
      first
      | exact back2 (_, _, _) hstp (by simp only; omega) rfl (by simp <;> omega) (by simp) (by simp [List.take_of_length_le])
      | trace_state
  · have hd := hI.done (by omega)
    have hL1 : LenOk 32 (out.length + 1) := ⟨by omega, by simp only [maxLen]; omega⟩
    cases b
    · simp only [Bool.false_eq_true, if_false] at hd
      simp [hlt, hd, hL1, List.take_of_length_le, ]
      intro γ hs' h1 hg
      obtain ⟨q1, q2⟩ := gam_at hg (k := 900) (T := 34) (sz := 2) (es := (out ++ [(⟨nm, data⟩ : PFile)]).map eFile) (by simp [eFile, cStr, List.take_of_length_le])
      clear hg
      have hpl := hp_files (out ++ [(⟨nm, data⟩ : PFile)])
      try simp [eFile, cStr] at hpl
      simp [hpl, List.take_of_length_le]
      exact ⟨fun i hi => (q1 i hi).1, fun h => q2 (by simpa using h)⟩
    · simp only [if_true, List.append_nil] at hd
      simp [hlt, hd, List.take_of_length_le, ]
      intro γ hs' h1 hg
      obtain ⟨q1, q2⟩ := gam_at hg (k := 900) (T := 34) (sz := 2) (es := (out).map eFile) (by simp [eFile, cStr, List.take_of_length_le])
      clear hg
      have hpl := hp_files (out)
      try simp [eFile, cStr] at hpl
      simp [hpl, List.take_of_length_le]
      exact ⟨fun i hi => (q1 i hi).1, fun h => q2 (by simpa using h)⟩
theorem e_spec_l32Without (k : List PFile) (nm : List UInt8) (hb : k.length ≤ 4294967296) : VC Try.prog 50 [.agg ((eDisk ⟨k⟩).map V.d), .d (.str nm)] (fun n r => ∃ g : Option Nat, r = .agg [.d (.sl g (some (34, 2)) ((wout k nm).map eFile))] ∧ FrF n g (wout k nm)) := by
  refine VC.of E s50 (by kernel_rfl) Try.func50 (by rfl) (by kernel_rfl) (by simp [Try.f50]) (by simp [Try.f50]) s50_ok fun B => ?_
  simp [Try.f50, s50_6, s50_6, ]
  refine loop_ruleL (X := Nat) (fun i _ => i ≤ k.length) (fun i => [(1, .d (.str nm)), (2, .ptr 2 0 0), (4, .ptr 4 0 0), (5, .ptr 5 0 0), (6, .d (.int .i64 i))]) (fun i => [(2, some (.box [.d (.pl (k.map eFile))])), (4, some (.box [.d (.sl none none [])])), (5, some (.box [.own 900 0 (wout (k.take i) nm).length])), (900, some (.row 34 2 ((wout (k.take i) nm).map eFile)))]) (fun i => k.length - i) ?_ ?_
  · refine (lead_box 5 0 900 34 2 [.d (.sl none none [])] (by omega) (by omega) (by omega) (by simp) rfl).bind ?_
    rintro _ rfl
    exact Lead.of ⟨0, by omega, rfl, rfl, Nat.le_refl _, by simp, by simp [wout]⟩
  intro i hs t m hi hh
  by_cases hlt : i < k.length
  · have hwi := wr1 (i := i) (by omega)
    have hol := wout_len (k.take i) nm
    rw [List.length_take] at hol
    have hstp := wout_step (nm := nm) hlt
    obtain ⟨out, ho⟩ : ∃ out, out = wout (k.take i) nm := ⟨_, rfl⟩
    rw [← ho] at hstp hol ⊢
    have hL1 : LenOk 32 (out.length + 1) := ⟨by omega, by simp only [maxLen]; omega⟩
    obtain ⟨fn, fd, hf⟩ : ∃ fn fd, k[i] = ⟨fn, fd⟩ := ⟨_, _, rfl⟩
    rw [hf] at hstp
    simp only at hstp
    by_cases e : fn = nm
    · rw [if_pos e, List.append_nil] at hstp
      simp [hlt, hf, e, hwi, s50_6, ]
      exact back2 (i + 1) (by omega) (by omega) rfl (by simp <;> omega) (by simp) (by simp [hstp])
    · rw [if_neg e] at hstp
      simp [hlt, hf, e, hwi, hL1, List.take_of_length_le, s50_6, ]
      exact back2 (i + 1) (by omega) (by omega) rfl (by simp <;> omega) (by simp) (by simp [hstp, List.take_of_length_le])
  · have hn : i = k.length := by omega
    subst hn
    simp [hlt, List.take_of_length_le, s50_6, ]
    obtain ⟨ww, hww⟩ : ∃ ww, ww = wout k nm := ⟨_, rfl⟩
    simp only [← hww]
    intro γ hs' h1 hg
    obtain ⟨q1, q2⟩ := gam_at hg (k := 900) (T := 34) (sz := 2) (es := (ww).map eFile) (by simp [hww])
    clear hg
    have hpl : hpLL ((ww).map eFile) = false := hpLL_eF _
    simp [hpl, List.take_of_length_le]
    exact ⟨fun i hi => (q1 i hi).1, fun h => q2 (by simpa using h)⟩
end

end Go.Proofs.Ytepiehnhajnebaa


namespace Go.Proofs.Ytepiehnhajnebaa
open Go.Vs Go.Proofs Go
set_option maxRecDepth 100000
set_option maxHeartbeats 1000000

section
attribute [local simp] plI_id plStr_id map_plI map_plStr pS cP cI cStr cU8 cB eDisk eFile eTab eReln eDb
theorem er_eFile : ∀ f : PFile, erL (eFile f) = eFile f := fun f => by simp [eFile, cStr, erL, D.er]
theorem erLL_eF (l : List PFile) : erLL (l.map eFile) = l.map eFile := by
  induction l with
  | nil => rfl
  | cons a r ih => simp only [List.map_cons, erLL, er_eFile, ih]
theorem e_spec_CommitDatabase (k : List PFile) (d : PDb) (n : Int) (hk : ∀ f ∈ k, f.data.length ≤ 1000000000) (hkl : k.length ≤ 1000000000) (hst : ∀ t ∈ d.tabs, t.name.length ≤ maxLen) : VC Try.prog 25 [.agg ((eDisk ⟨k⟩).map V.d), .agg ((eDb d).map V.d), .d (.int .i64 n)] (fun m r => ∃ g : Option Nat, r = .tup [.agg [.d (.sl g (some (34, 2)) ((comP k d n).map eFile))], .d (.bool (comB k d n))] ∧ FrF m g (comP k d n)) := by
  refine VC.of E s25 (by kernel_rfl) Try.func25 (by rfl) (by kernel_rfl) (by simp [Try.f25]) (by simp [Try.f25]) s25_ok fun B => ?_
  obtain ⟨ts⟩ := d
  have hnle := newF_le k 99
  have hvw : IntKind.i64.wrap ((newV k : Int) + 1) = ((newV k + 1 : Nat) : Int) := by rw [wrap64_of (by simp only [newV]; omega) (by simp only [newV]; omega)]; simp
  have hvz : inZ ((newV k + 1 : Nat) : Int) := by simp only [inZ, newV]; omega
  have hfl := verFs_len ⟨ts⟩ ((newV k + 1 : Nat) : Int)
  have hG : comG k ⟨ts⟩ = (decide (verFs ⟨ts⟩ ((newV k + 1 : Nat) : Int) ≠ []) && dskOk k) := rfl
  have hP : comP k ⟨ts⟩ n = if comG k ⟨ts⟩ then wrAll (wout k (hdNm ((newV k + 1 : Nat) : Int))) ((verFs ⟨ts⟩ ((newV k + 1 : Nat) : Int)).take n.toNat) else k := rfl
  have hB : comB k ⟨ts⟩ n = (comG k ⟨ts⟩ && decide (((verFs ⟨ts⟩ ((newV k + 1 : Nat) : Int)).length : Int) ≤ n)) := rfl
  have hL : LenOk 32 k.length := ⟨by omega, by simp only [maxLen]; omega⟩
  have same : comG k ⟨ts⟩ = false → comP k ⟨ts⟩ n = k ∧ comB k ⟨ts⟩ n = false := fun h => by rw [hP, hB, h]; simp
  simp [Try.f25, s25_6, s25_10, s25_6, s25_10, ]
  refine call_f (w_spec_NewestVersion k hk) (by simp) rfl fun hs1 hh1 => ?_
  simp at hh1
  simp [hvw, s25_6, s25_10, ]
  refine call_p (w_spec_VersionFiles ⟨ts⟩ ((newV k + 1 : Nat) : Int) hst) (by simp) fun hs2 hh2 hl2 => ?_
  simp at hh2
  obtain ⟨u, hu⟩ : ∃ u : Int, u = ((newV k + 1 : Nat) : Int) := ⟨_, rfl⟩
  rw [← hu] at hvw hvz hfl hG hP hB
  simp only [← hu]
  by_cases hf : verFs ⟨ts⟩ u = []
  · have hg : comG k ⟨ts⟩ = false := by rw [hG]; simp [hf]
    have hs := same hg
    simp [hf, hL, hs.1, hs.2, List.take_of_length_le, s25_6, s25_10, ]
    intro γ hs' h1 hg'
    obtain ⟨q1, q2⟩ := gam_at hg' (k := 18) (T := 34) (sz := 2) (es := k.map eFile) (by simp)
    clear hg'
    have hpl := hpLL_eF k
    simp [hpl]
    exact ⟨fun i hi => (q1 i hi).1, fun h => q2 (by simpa using h)⟩
  have hfp : ((verFs ⟨ts⟩ u).length : Int) ≠ 0 := by
    have := List.length_pos_iff.2 hf; omega
  obtain ⟨fs, hfs⟩ : ∃ fs, fs = verFs ⟨ts⟩ u := ⟨_, rfl⟩
  rw [← hfs] at hf hfp hfl hG hP hB ⊢
  simp [hf, hfp, hL, s25_6, s25_10, ]
  refine call_f (w_spec_IsValidDisk k) (by simp) rfl fun hs3 hh3 => ?_
  simp at hh3
  cases hd : dskOk k
  · have hg : comG k ⟨ts⟩ = false := by rw [hG]; simp [hd]
    have hs := same hg
    simp [hs.1, hs.2, List.take_of_length_le, s25_6, s25_10, ]
    intro γ hs' h1 hg'
    obtain ⟨q1, q2⟩ := gam_at hg' (k := 18) (T := 34) (sz := 2) (es := k.map eFile) (by simp)
    clear hg'
    have hpl := hpLL_eF k
    simp [hpl]
    exact ⟨fun i hi => (q1 i hi).1, fun h => q2 (by simpa using h)⟩
  have hg : comG k ⟨ts⟩ = true := by rw [hG]; simp [hd, hf]
  rw [if_pos hg] at hP
  rw [hg, Bool.true_and] at hB
  simp [hvw, s25_6, s25_10, ]
  refine call_f (w_spec_l32Head u hvz) (by simp) rfl fun hs4 hh4 => ?_
  simp at hh4
  simp [List.take_of_length_le, s25_6, s25_10, ]
  have hnm : [109] ++ decZ u = hdNm u := rfl
  refine call_pq (e_spec_l32Without k (hdNm u) (by omega)) (by simp [hdNm, List.take_of_length_le]) fun n5 hs5 r5 hn5 hm5 hp5 hr5 => ?_
  obtain ⟨g0, rfl, hg0⟩ := hp5
  simp at hn5
  have hwl := wout_len k (hdNm u)
  obtain ⟨x0, hx0⟩ : ∃ x, x = wout k (hdNm u) := ⟨_, rfl⟩
  rw [← hx0] at hP hwl hg0 ⊢
  have hg1 : FrF B g0 x0 := ⟨fun i hi => by have := hg0.1 i hi; omega, hg0.2⟩
  simp [s25_6, s25_10, ]
  refine loop_rule (X := Nat × Option Nat) (fun p => (p.1 ≤ fs.length ∧ (p.1 : Int) ≤ max n 0) ∧ FrF B p.2 (wrAll x0 (fs.take p.1))) (fun p => [(2, .d (.int .i64 n)), (6, .ptr 6 0 0), (9, .d (.pl (fs.map eFile))), (10, .ptr 10 0 0), (11, .d (.int .i64 p.1))]) (fun p => [(6, some (.box [.d (.sl none none [])])), (10, some (.box [.d (.sl p.2 (some (34, 2)) ((wrAll x0 (fs.take p.1)).map eFile))]))]) (fun p => fs.length - p.1) (0, g0) ⟨by simp; omega, hg1⟩ (by simp) (by simp [wrAll]) ?_
  rintro ⟨i, g⟩ hs t m ⟨hi, hG1⟩ hh
  simp only at hi hG1
  have hal := wrAll_len (fs.take i) x0
  rw [List.length_take] at hal
  by_cases hlt : i < fs.length ∧ (i : Int) < n
  · have hwi := wr1 (i := i) (by omega)
    have h1 := hlt.1
    have h2 := hlt.2
    have hstp := wrAll_step (k := x0) h1
    obtain ⟨fn, fd, hf'⟩ : ∃ fn fd, fs[i] = ⟨fn, fd⟩ := ⟨_, _, rfl⟩
    rw [hf'] at hstp
    obtain ⟨X, hX⟩ : ∃ X, X = wrAll x0 (fs.take i) := ⟨_, rfl⟩
    rw [← hX] at hstp hal hG1 ⊢
    simp [h1, h2, hf', s25_6, s25_10, ]
    refine call_pq (e_spec_WriteFile X fn fd (by omega)) (by simp [erLL_eF]) fun n6 hs6 r6 hn6 hm6 hp6 hr6 => ?_
    obtain ⟨g6, rfl, hg6⟩ := hp6
    simp at hn6
    simp [hwi, s25_6, s25_10, ]
    exact back (i + 1, g6) ⟨by simp only; omega, by rw [hstp]; exact ⟨fun j hj => by have := hg6.1 j hj; omega, hg6.2⟩⟩ (by simp only; omega) rfl (by simp <;> omega) (by simp) (by simp [hstp])
  · have hend : fs.take i = fs.take n.toNat := by
      by_cases h : i < fs.length
      · have : i = n.toNat := by omega
        rw [this]
      · rw [List.take_of_length_le (by omega), List.take_of_length_le (by omega)]
    rw [hend, ← hP] at hG1
    rw [hend, ← hP]
    by_cases h1 : i < fs.length
    · have h2 : ¬ (i : Int) < n := fun h => hlt ⟨h1, h⟩
      simp [h1, h2, hB, s25_6, s25_10, ]
      exact hG1
    · simp [h1, hB, s25_6, s25_10, ]
      exact hG1
end

end Go.Proofs.Ytepiehnhajnebaa


namespace Go.Proofs.Ytepiehnhajnebaa
open Go.Vs Go.Proofs Go
set_option maxRecDepth 100000
set_option maxHeartbeats 1000000

def strN (n : Nat) (v : V) : Prop := ∃ x, v = .d (.str x) ∧ x.length ≤ n
section
attribute [local simp] pS dSl cP cI cW
theorem w_spec_l1Text (b : Sl Int) (c : Nat × Int) (n : Nat) (hb : b.xs.length ≤ 1048576) (hc : curO b c) (hn : n ≤ 1000) : VX Try.prog 32 [] [.ptr 1000 0 0, .d (.int .i64 n)] (some ((curD b c).map V.d)) (fun _ r cs _ => CurP b (strN n) r cs) := by
  refine VX.of EP s32 (by kernel_rfl) Try.func32 (by rfl) (by kernel_rfl) (by simp [Try.f32]) (by simp [Try.f32]) s32_ok ?_ ?_ fun B hB => ?_
  · simp
  · rintro cs h
    cases h
    simp [curD]
  have w0 : IntKind.i64.wrap ((n : Int) + 1) = n + 1 := wrap64_of (by omega) (by omega)
  simp [Try.f32, curD]
  refine call_cur c E47 (w_spec_l1Below b c 4 hb hc (by omega)) (by simp) (by simp [curD]) (by simp) (by simp) fun r1 c1 hs1 hh1 hq1 hl1 o1 => ?_
  obtain ⟨st, rfl, -, -, -⟩ := hq1
  simp [w0, curD]
  refine call_cur c1 E47 (w_spec_l1Below b c1 (n + 1) hb o1 (by omega)) (by simp) (by simp [curD]) (by simp) (by simp) fun r2 c2 hs2 hh2 hq2 hl2 o2 => ?_
  obtain ⟨u, rfl, u0, u1, _⟩ := hq2
  have u1 := u1 (by omega)
  obtain ⟨N, rfl⟩ : ∃ N : Nat, u = N := ⟨u.toNat, by omega⟩
  simp [curD]
  refine loop_rule (X := (Nat × Int) × List Int × Nat) (fun p => curO b p.1 ∧ p.2.1.length + p.2.2 ≤ n) (fun p => [(0, .ptr 1000 0 0), (5, .own 9 0 p.2.1.length), (6, .d (.int .i64 st)), (7, .d (.int .i64 p.2.2))]) (fun p => [(1000, some (.box ((curD b p.1).map V.d))), (9, some (.row 5 1 (p.2.1.map cW)))]) (fun p => p.2.2) (c2, [], N) ⟨o2, by simp; omega⟩ (by simp) (by simp [curD]) ?_
  rintro ⟨c3, l, k⟩ hs t m ⟨o3, hl⟩ hh
  simp only at o3 hl
  cases k with
  | zero =>
    simp [curD, List.take_of_length_le, ]
    refine ⟨fun x _ => rfl, ?_⟩
    simp [vendX]
    exact .inr ⟨⟨c3, ⟨_, rfl, by simp; omega⟩, by simp [curD], o3⟩⟩
  | succ k =>
    obtain ⟨u, hu⟩ : ∃ u : Nat, u = k + 1 := ⟨_, rfl⟩
    have hup : 0 < u := by omega
    have hwm : IntKind.i64.wrap ((u : Int) - 1) = k := by rw [wrap64_of (by omega) (by omega)]; omega
    have hL : LenOk 1 (l.length + 1) := ⟨by omega, by simp only [maxLen]; omega⟩
    rw [← hu] at hl ⊢
    refine anyQ fun Q => ?_
    simp [hup, curD, ]
    refine call_cur c3 E59 (w_spec_l1Byte b c3 hb o3) (by simp) (by simp [curD]) (by simp) (by simp) fun r4 c4 hs4 hh4 hq4 hl4 o4 => ?_
    obtain ⟨x, rfl, x0, x1⟩ := hq4
    have fin : ∀ z : Int, True := fun _ => trivial
    by_cases e1 : st = 1
    · subst e1
      simp [hL, hwm, curD, List.take_of_length_le, ]
      exact back (c4, l ++ [IntKind.u8.wrap (x.tmod 2)], k) ⟨o4, by simp; omega⟩ (by simp only; omega) rfl (by simpa using hh4) (by simp) (by simp [curD])
    by_cases e2 : st = 2
    · subst e2
      simp [hL, hwm, curD, List.take_of_length_le, ]
      exact back (c4, l ++ [IntKind.u8.wrap (IntKind.i64.wrap (97 + x.tmod 4))], k) ⟨o4, by simp; omega⟩ (by simp only; omega) rfl (by simpa using hh4) (by simp) (by simp [curD])
    simp [e1, e2, hL, hwm, curD, List.take_of_length_le, ]
    exact back (c4, l ++ [IntKind.u8.wrap x], k) ⟨o4, by simp; omega⟩ (by simp only; omega) rfl (by simpa using hh4) (by simp) (by simp [curD])
theorem w_spec_l1Spoil (b : Sl Int) (c : Nat × Int) (s : List UInt8) (hb : b.xs.length ≤ 1048576) (hc : curO b c) (hs : s.length ≤ 1000000000) : VX Try.prog 58 [] [.ptr 1000 0 0, .d (.str s)] (some ((curD b c).map V.d)) (fun _ r cs _ => CurP b (strN (s.length + 3)) r cs) := by
  refine VX.of EP s58 (by kernel_rfl) Try.func58 (by rfl) (by kernel_rfl) (by simp [Try.f58]) (by simp [Try.f58]) s58_ok ?_ ?_ fun B hB => ?_
  · simp
  · rintro cs h
    cases h
    simp [curD]
  by_cases h0 : s = []
  · subst h0
    simp [Try.f58, s58_6, s58_8, s58_11, s58_6, s58_8, s58_11, curD]
    refine call_cur c E32 (w_spec_l1Text b c 3 hb hc (by omega)) (by simp) (by simp [curD]) (by simp) (by simp) fun r1 c1 hs1 hh1 hq1 hl1 o1 => ?_
    obtain ⟨x, rfl, hx⟩ := hq1
    simp [vendX, s58_6, s58_8, s58_11, curD]
    exact .inr ⟨⟨c1, ⟨_, rfl, by simpa using hx⟩, by simp [curD], o1⟩⟩
  have hp := List.length_pos_iff.2 h0
  simp [h0, Try.f58, s58_6, s58_8, s58_11, s58_6, s58_8, s58_11, curD]
  refine call_cur c E47 (w_spec_l1Below b c s.length hb hc (by omega)) (by simp) (by simp [curD]) (by simp) (by simp) fun r1 c1 hs1 hh1 hq1 hl1 o1 => ?_
  obtain ⟨u, rfl, u0, u1, _⟩ := hq1
  have u1 := u1 (by omega)
  obtain ⟨k, rfl⟩ : ∃ k : Nat, u = k := ⟨u.toNat, by omega⟩
  have hk : k < s.length := by omega
  have hwk := wr1 (i := k) (by omega)
  simp [s58_6, s58_8, s58_11, curD]
  refine call_cur c1 E47 (w_spec_l1Below b c1 4 hb o1 (by omega)) (by simp) (by simp [curD]) (by simp) (by simp) fun r2 c2 hs2 hh2 hq2 hl2 o2 => ?_
  obtain ⟨v, rfl, v0, v1, _⟩ := hq2
  by_cases e0 : v = 0
  · subst e0
    simp [hk, hwk, s58_6, s58_8, s58_11, curD]
    refine ⟨by omega, ⟨by omega, by omega⟩, by omega, ?_⟩
    simp [vendX]
    exact .inr ⟨⟨c2, ⟨_, rfl, by simp; omega⟩, by simp [curD], o2⟩⟩
  by_cases e1 : v = 1
  · subst e1
    simp [hk, hwk, s58_6, s58_8, s58_11, curD]
    refine ⟨by omega, ?_⟩
    refine call_cur c2 E59 (w_spec_l1Byte b c2 hb o2) (by simp) (by simp [curD]) (by simp) (by simp) fun r3 c3 hs3 hh3 hq3 hl3 o3 => ?_
    obtain ⟨x, rfl, x0, x1⟩ := hq3
    simp [hk, hwk, s58_6, s58_8, s58_11, curD]
    refine ⟨rfl, by omega, by omega, ?_⟩
    simp [vendX]
    exact .inr ⟨⟨c3, ⟨_, rfl, by simp; omega⟩, by simp [curD], o3⟩⟩
  by_cases e2 : v = 2
  · subst e2
    simp [hk, hwk, s58_6, s58_8, s58_11, curD]
    refine ⟨by omega, ?_⟩
    simp [vendX]
    exact .inr ⟨⟨c2, ⟨_, rfl, by simp; omega⟩, by simp [curD], o2⟩⟩
  simp [hk, hwk, e0, e1, e2, s58_6, s58_8, s58_11, curD]
  refine ⟨by omega, ?_⟩
  try refine ⟨⟨by omega, by omega⟩, ?_⟩
  repeat' apply And.intro
  all_goals (try (first | (show (0:Int) ≤ _; omega) | (show Nat.le _ _; omega)))
  all_goals
    refine call_cur c2 E47 (w_spec_l1Below b c2 255 hb o2 (by omega)) (by simp) (by simp [curD]) (by simp) (by simp) fun r3 c3 hs3 hh3 hq3 hl3 o3 => ?_
    obtain ⟨x, rfl, x0, x1, _⟩ := hq3
    simp [hk, hwk, s58_6, s58_8, s58_11, curD]
    refine ⟨rfl, by omega, ?_⟩
    try refine ⟨⟨by omega, by omega⟩, ?_⟩
    refine ⟨by omega, ?_⟩
    simp [vendX]
    exact .inr ⟨⟨c3, ⟨_, rfl, by simp; omega⟩, by simp [curD], o3⟩⟩
end

end Go.Proofs.Ytepiehnhajnebaa


namespace Go.Proofs.Ytepiehnhajnebaa
open Go.Vs Go.Proofs Go
set_option maxRecDepth 100000
set_option maxHeartbeats 1000000

def bdPF (f : PFile) : Prop := f.name.length ≤ 200 ∧ f.data.length ≤ 600000
def bdF (f : File) : Prop := f.name.length ≤ 200 ∧ f.data.length ≤ 700000
/-- what the draw of a disk leaves -/
structure DskA (b : Sl Int) (r : V) (cs : List V) : Prop where
  ex : ∃ (c' : Nat × Int) (z : Disk), r = .agg ((cDisk z).map V.d) ∧ z.files.xs.length ≤ 30 ∧ (∀ f ∈ z.files.xs, bdF f) ∧ cs = (curD b c').map V.d ∧ curO b c'
theorem bdPd_ok {d : PDb} (h : dbOk d = true) : bdPd d := by
  have h6 := dbOk_len h
  refine ⟨by omega, fun t ht => ?_⟩
  have hT : tabOk t = true := dbOk_tab h ht
  have hn := tabOk_name hT
  simp only [tabOk, Bool.and_eq_true, decide_eq_true_eq] at hT
  have hr := rowsOk_row hT.1.1.2
  have ha := rowsOk_inR hT.1.1.2
  simp only [inR, Bool.and_eq_true, decide_eq_true_eq] at ha
  exact ⟨by omega, by omega, fun r hr' => by have := hr r hr'; omega, by omega⟩
theorem bdPd_app {d : PDb} {x : PDelta} (h : bdPd d) : bdPd (appP d x) := by
  cases hB : appB d x
  · rw [app_no hB]; exact h
  · exact bdPd_ok (app_ok hB)
theorem szDb_bdP {d : PDb} (h : bdPd d) : szDb d :=
  ⟨by have := h.1; omega, fun t ht => ⟨by have := (h.2 t ht).2.1; omega, fun x hx => by have := (h.2 t ht).2.2.1 x hx; omega⟩⟩
theorem st_bdP {d : PDb} (h : bdPd d) : ∀ t ∈ d.tabs, t.name.length ≤ maxLen := fun t ht => by
  have := (h.2 t ht).1
  simp only [maxLen]; omega
theorem re_files {g : Nat} {T : TypeId × Nat} {xs ys : List PFile} (h : ys.length = xs.length) : reV (one g (.sl (some g) (some T) (ys.map eFile))) (.d (.sl (some g) (some T) (xs.map eFile))) = .d (.sl (some g) (some T) (ys.map eFile)) := by
  have h1 : reD (one g (.sl (some g) (some T) (ys.map eFile))) (.sl (some g) (some T) (xs.map eFile)) = some (.sl (some g) (some T) (ys.map eFile)) := by
    simp only [reD, one, if_true]
    rw [if_pos]
    refine ⟨trivial, rfl, trivial, ?_⟩
    refine List.ext_getElem (by simp [h]) fun n h1 h2 => ?_
    simp only [List.getElem_map, eFile, cStr, List.length_append, List.length_singleton]
  simp only [reV, h1]
theorem bd_ver {d : PDb} {v : Int} (hv : 0 ≤ v ∧ v ≤ 100) (hd : ∀ t ∈ d.tabs, t.name.length ≤ 10) : ∀ f ∈ verFs d v, bdPF f := fun f hf => by
  have hz := decZ_len (n := v) (by omega)
  rw [verFs] at hf
  split at hf
  · rename_i hB
    have hok : dbOk d = true := by simp only [verB, Bool.and_eq_true] at hB; exact hB.1
    have h6 := dbOk_len hok
    rcases List.mem_append.1 hf with h | h
    · simp only [runs, List.mem_map] at h
      obtain ⟨t, ht, rfl⟩ := h
      have := hd t ht
      have := fmtRel_len t.rel
      exact ⟨by simp only [runNm, List.length_append, List.length_singleton]; omega, by simp only; omega⟩
    · rw [List.mem_singleton.1 h]
      have h1 := headTx_len (l := d.tabs) fun t ht => tabOk_name (dbOk_tab hok ht)
      have h2 := ckS_in (headTx d.tabs)
      have h3 := decZ_len (n := ckS (headTx d.tabs)) (by omega)
      exact ⟨by simp only [List.length_append, List.length_singleton]; omega, by simp only [List.length_append]; omega⟩
  · cases hf
theorem wrA_bd {n : PFile} (hn : bdPF n) {k : List PFile} (hk : ∀ f ∈ k, bdPF f) : ∀ f ∈ wrF k n, bdPF f := fun f hf => by
  rcases wrA_mem (b := false) hf with h | h
  · exact hk f h
  · rw [h.1]; exact hn
theorem wrAll_bd : ∀ {fs k : List PFile}, (∀ f ∈ fs, bdPF f) → (∀ f ∈ k, bdPF f) → ∀ f ∈ wrAll k fs, bdPF f
  | [], k, _, hk => hk
  | n :: fs, k, hf, hk => wrAll_bd (fs := fs) (k := wrF k n) (fun f h => hf f (by simp [h])) (wrA_bd (hf n (by simp)) hk)
theorem com_bd {k : List PFile} {d : PDb} {n : Int} (hk : ∀ f ∈ k, bdPF f) (hd : ∀ t ∈ d.tabs, t.name.length ≤ 10) : ∀ f ∈ comP k d n, bdPF f := by
  unfold comP
  split
  · have hle := newF_le k 99
    refine wrAll_bd (fun f hf => bd_ver (v := ((newV k + 1 : Nat) : Int)) (by simp only [newV]; omega) hd f (List.mem_of_mem_take hf)) fun f hf => ?_
    exact hk f (List.mem_filter.1 hf |>.1)
  · exact hk
def bdPG (f : PFile) : Prop := f.name.length ≤ 200 ∧ f.data.length ≤ 700000
theorem ids_eF (l : List PFile) : idsLL (l.map eFile) = [] := by
  induction l with
  | nil => rfl
  | cons a r ih => simp [idsLL, ih, eFile, cStr, idsL, D.ids]
theorem eFile_eq (a d : List UInt8) : eFile ⟨a, d⟩ = [D.str a, D.str d] := rfl
theorem bdPG_of {f : PFile} (h : bdPF f) : bdPG f := ⟨h.1, by have := h.2; omega⟩
theorem wrA_bdG {n : PFile} (hn : bdPG n) {k : List PFile} (hk : ∀ f ∈ k, bdPG f) : ∀ f ∈ wrF k n, bdPG f := fun f hf => by
  rcases wrA_mem (b := false) hf with h | h
  · exact hk f h
  · rw [h.1]; exact hn
theorem wrAll_bdG : ∀ {fs k : List PFile}, (∀ f ∈ fs, bdPG f) → (∀ f ∈ k, bdPG f) → ∀ f ∈ wrAll k fs, bdPG f
  | [], k, _, hk => hk
  | n :: fs, k, hf, hk => wrAll_bdG (fs := fs) (k := wrF k n) (fun f h => hf f (by simp [h])) (wrA_bdG (hf n (by simp)) hk)
theorem com_bdG {k : List PFile} {d : PDb} {n : Int} (hk : ∀ f ∈ k, bdPG f) (hd : ∀ t ∈ d.tabs, t.name.length ≤ 10) : ∀ f ∈ comP k d n, bdPG f := by
  unfold comP
  split
  · have hle := newF_le k 99
    refine wrAll_bdG (fun f hf => bd_ver (v := ((newV k + 1 : Nat) : Int)) (by simp only [newV]; omega) hd f (List.mem_of_mem_take hf) |> bdPG_of) fun f hf => ?_
    exact hk f (List.mem_filter.1 hf |>.1)
  · exact hk
def toF (f : PFile) : File := ⟨f.name, f.data⟩
theorem cFile_toF (f : PFile) : cFile (toF f) = eFile f := rfl
theorem map_toF (l : List PFile) : (l.map toF).map cFile = l.map eFile := by simp [cFile_toF]
theorem DskA.mk' {b : Sl Int} {c' : Nat × Int} {g : Option Nat} {T : Option (TypeId × Nat)} {l : List PFile} (hl : l.length ≤ 30) (hb : ∀ f ∈ l, bdPG f) (ho : curO b c') : DskA b (.agg [.d (.sl g T (l.map eFile))]) ((curD b c').map V.d) :=
  ⟨⟨c', ⟨⟨g, T, l.map toF⟩⟩, by simp only [cDisk, cS, dSl, List.map_cons, List.map_nil, map_toF], by simpa using hl, fun f hf => by
    obtain ⟨x, hx, rfl⟩ := List.mem_map.1 hf
    exact hb x hx, rfl, ho⟩⟩
section
attribute [local simp] pS dSl cP cI cW
theorem w_spec_l32Disk (b : Sl Int) (c : Nat × Int) (hb : b.xs.length ≤ 1048576) (hc : curO b c) : VX Try.prog 30 [] [.ptr 1000 0 0] (some ((curD b c).map V.d)) (fun _ r cs _ => DskA b r cs) := by
  refine VX.of E s30 (by kernel_rfl) Try.func30 (by rfl) (by kernel_rfl) (by simp [Try.f30]) (by simp [Try.f30]) s30_ok ?_ ?_ fun B hB => ?_
  · simp
  · rintro cs h
    cases h
    simp [curD]
  simp [Try.f30, s30_6, s30_7, s30_8, s30_11, s30_13, s30_6, s30_7, s30_8, s30_11, s30_13, curD]
  refine call_db c E54 (w_spec_l6Db b c hb hc) (by simp) (by simp [curD]) (by simp) (by simp) fun xs g0 c0 n0 hs0 hn0 hm0 bd0 ok0 len0 hgn hgs hgx o0 => ?_
  simp [cDb, cS, curD, s30_6, s30_7, s30_8, s30_11, s30_13, ]
  refine call_cur c0 E47 (w_spec_l1Below b c0 4 hb o0 (by omega)) (by simp) (by simp [curD]) (by simp) (by simp) fun r1 c1 hs1 hh1 hq1 hl1 o1 => ?_
  obtain ⟨u, rfl, u0, u1, _⟩ := hq1
  have u1 := u1 (by omega)
  obtain ⟨N, rfl⟩ : ∃ N : Nat, u = N := ⟨u.toNat, by omega⟩
  simp [cDb, cS, curD, s30_6, s30_7, s30_8, s30_11, s30_13, ]
  refine loop_rule (X := (Nat × Int) × (Option Nat × Option (TypeId × Nat) × List PFile) × Db × Nat) (fun p => (curO b p.1 ∧ p.2.1.2.2.length + 7 * p.2.2.2 ≤ 21) ∧ (FrF B p.2.1.1 p.2.1.2.2 ∧ (p.2.1.2.2 ≠ [] → p.2.1.2.1 = some (34, 2)) ∧ ∀ f ∈ p.2.1.2.2, bdPF f) ∧ bdPd (plDb p.2.2.1)) (fun p => [(0, .ptr 1000 0 0), (2, .ptr 2 0 0), (3, .ptr 3 0 0), (4, .ptr 4 0 0), (5, .d (.int .i64 p.2.2.2))]) (fun p => [(1000, some (.box ((curD b p.1).map V.d))), (2, some (.box [.d (.sl none none [])])), (3, some (.box [.d (.sl p.2.1.1 p.2.1.2.1 (p.2.1.2.2.map eFile))])), (4, some (.box ((cDb p.2.2.1).map V.d)))]) (fun p => p.2.2.2) (c1, (none, none, []), ⟨⟨some g0, some (68, 3), xs⟩⟩, N) ⟨⟨o1, by simp; omega⟩, ⟨⟨by simp, by simp⟩, by simp, by simp⟩, bdPd_of bd0⟩ (by simp) (by simp [curD, cDb, cS]) ?_
  rintro ⟨c2, ⟨g, T, l⟩, z, k⟩ hs t m ⟨⟨o2, hl⟩, ⟨hfr, hT, hbl⟩, hbz⟩ hh
  simp only at o2 hl hfr hT hbl hbz
  have hBs : B ≤ hs := by have hh := hh; simp at hh hn0 hh1; omega
  cases k with
  | zero =>
    by_cases hl0 : l = []
    · subst hl0
      simp [curD, vendX, s30_6, s30_7, s30_8, s30_11, s30_13, ]
      intro γ hs' h1 hg
      clear hg
      have := DskA.mk' (b := b) (c' := c2) (g := g) (T := T) (l := []) (by simp) (by simp) o2
      simpa [curD] using this
    have hlp : 0 < l.length := List.length_pos_iff.2 hl0
    obtain ⟨gi, rfl⟩ : ∃ gi, g = some gi := Option.ne_none_iff_exists'.1 (hfr.2 hl0)
    have hgB : B ≤ gi := hfr.1 gi rfl
    obtain rfl := hT hl0
    have e3 : ∀ d, reV (one gi d) (.d (.sl b.id b.T (b.xs.map cW))) = .d (.sl b.id b.T (b.xs.map cW)) := fun d => reV_id _ (fun j hj => one_out fun e => by
      have := hB j (.inr (by simpa [curD] using hj))
      omega) (by simp [tkLL_mapW])
    simp [hlp, curD, s30_6, s30_7, s30_8, s30_11, s30_13, ]
    refine call_cur c2 E57 (w_spec_l1Once b c2 5 hb o2 (by omega)) (by simp) (by simp [curD]) (by simp) (by simp) fun r3 c3 hs3 hh3 hq3 hl3 o3 => ?_
    obtain ⟨v, rfl⟩ := hq3
    cases v
    · obtain ⟨l2, hl2⟩ : ∃ l2, l2 = l := ⟨_, rfl⟩
      obtain ⟨cc, hcc⟩ : ∃ cc, cc = c3 := ⟨_, rfl⟩
      have oc : curO b cc := by rw [hcc]; exact o3
      have hb2 : ∀ f ∈ l2, bdPG f := by rw [hl2]; exact fun f hf => ⟨(hbl f hf).1, by have := (hbl f hf).2; omega⟩
      rw [← hcc]
      rw [show l.map eFile = l2.map eFile by rw [hl2]]
      have hl2n : l2.length = l.length := by rw [hl2]
      by_cases h1 : (1 : Nat) < l.length
      · have h1' : (1 : Int) < l.length := by omega
        have hx0 : 0 < l2.length := by omega
        have hx1 : 1 < l2.length := by omega
        simp [hl2n, h1, h1', curD, s30_6, s30_7, s30_8, s30_11, s30_13, ]
        refine call_cur cc E57 (w_spec_l1Once b cc 16 hb oc (by omega)) (by simp) (by simp [curD]) (by simp) (by simp) fun r4 c4 hs4 hh4 hq4 hl4 o4 => ?_
        obtain ⟨u, rfl⟩ := hq4
        cases u
        · simp [curD, vendX, s30_6, s30_7, s30_8, s30_11, s30_13, ]
          intro γ hs' h1 hg
          clear hg
          exact DskA.mk' (by omega) hb2 o4
        obtain ⟨⟨an, ad⟩, ⟨en, ed⟩, rr, hlr⟩ : ∃ a e rr, l2 = a :: e :: rr := by
          match l2, hx1 with
          | a :: e :: rr, _ => exact ⟨a, e, rr, rfl⟩
        have m0 := hb2 ⟨an, ad⟩ (by rw [hlr]; simp)
        have m1 := hb2 ⟨en, ed⟩ (by rw [hlr]; simp)
        have eR := re_files (g := gi) (T := (34, 2)) (xs := l2) (ys := ⟨an, ad⟩ :: ⟨an, ed⟩ :: rr) (by rw [hlr]; simp)
        have hb3 : ∀ f ∈ (⟨an, ad⟩ : PFile) :: ⟨an, ed⟩ :: rr, bdPG f := fun f hf => by
          rcases List.mem_cons.1 hf with h | h
          · rw [h]; exact m0
          rcases List.mem_cons.1 h with h | h
          · rw [h]; exact ⟨m0.1, m1.2⟩
          · exact hb2 f (by rw [hlr]; simp [h])
        have hlr2 : l.length = rr.length + 2 := by rw [← hl2n, hlr]; simp
        have nI2 : gi ∉ idsLL (rr.map eFile) := by rw [ids_eF]; simp
        rw [hlr] at eR
        simp [eFile_eq] at eR
        simp [hlr, hlr2, eR, nI2, hgB, ids_eF, e3, eFile_eq, curD, cStr, vendX, s30_6, s30_7, s30_8, s30_11, s30_13, ]
        refine ⟨by simp [idsLL, idsL, D.ids, ids_eF], ?_⟩
        intro γ hs' h1 hg
        clear hg
        have := DskA.mk' (b := b) (c' := c4) (g := some gi) (T := some (34, 2)) (l := ⟨an, ad⟩ :: ⟨an, ed⟩ :: rr) (by simp only [List.length_cons]; omega) hb3 o4
        simpa [eFile_eq, curD] using this
      · have h1' : ¬ (1 : Int) < l.length := by omega
        simp [hl2n, h1, h1', curD, vendX, s30_6, s30_7, s30_8, s30_11, s30_13, ]
        intro γ hs' h1 hg
        clear hg
        exact DskA.mk' (by omega) hb2 oc
    simp [hlp, curD, s30_6, s30_7, s30_8, s30_11, s30_13, ]
    refine call_cur c3 E47 (w_spec_l1Below b c3 l.length hb o3 (by omega)) (by simp) (by simp [curD]) (by simp) (by simp) fun r5 c5 hs5 hh5 hq5 hl5 o5 => ?_
    obtain ⟨u, rfl, u0, u1, _⟩ := hq5
    have u1 := u1 (by omega)
    obtain ⟨j, rfl⟩ : ∃ j : Nat, u = j := ⟨u.toNat, by omega⟩
    have hj : j < l.length := by omega
    obtain ⟨fn, fd, hf⟩ : ∃ fn fd, l[j] = ⟨fn, fd⟩ := ⟨_, _, rfl⟩
    have mj := hbl _ (List.getElem_mem hj)
    rw [hf] at mj
    have mj1 : fn.length ≤ 200 := mj.1
    have mj2 : fd.length ≤ 600000 := mj.2
    simp [hlp, hj, hf, curD, s30_6, s30_7, s30_8, s30_13, ]
    refine cutT (X := (Nat × Int) × List UInt8) (fun p _ => curO b p.1 ∧ p.2.length ≤ fd.length + 3) (fun p => [(0, .ptr 1000 0 0), (2, .ptr 2 0 0), (3, .ptr 3 0 0)]) (fun p => [(1000, some (.box ((curD b p.1).map V.d))), (2, some (.box [.d (.sl none none [])])), (3, some (.box [.d (.sl (some gi) (some (34, 2)) ((l.set j ⟨fn, p.2⟩).map eFile))]))]) ?_ ?_
    · intro K hK
      have eS : ∀ x : List UInt8, (l.map eFile).set j [D.str fn, D.str x] = (l.set j ⟨fn, x⟩).map eFile := fun x => by rw [List.map_set]; rfl
      have eR := fun x : List UInt8 => re_files (g := gi) (T := (34, 2)) (xs := l) (ys := l.set j ⟨fn, x⟩) (by simp)
      have nI : gi ∉ idsLL (l.map eFile) := by rw [ids_eF]; simp
      simp [-List.map_set, hlp, hj, hf, eFile_eq, curD, s30_11, ]
      repeat' apply And.intro
      all_goals
        refine call_cur c5 E58 (w_spec_l1Spoil b c5 fd hb o5 (by omega)) (by simp) (by simp [curD]) (by simp) (by simp) fun r6 c6 hs6 hh6 hq6 hl6 o6 => ?_
        obtain ⟨x, rfl, hx⟩ := hq6
        simp [-List.map_set, hlp, hj, hf, eFile_eq, eS, eR, nI, hgB, e3, curD, s30_11, ]
        exact hK (c6, x) _ ⟨o6, hx⟩ rfl rfl (by simpa using hh6) (by simp) (by simp [-List.map_set, eS, curD, eFile_eq])
    rintro ⟨cc, x⟩ hs6 t m ⟨oc, hx⟩ hh6
    simp only at oc hx
    obtain ⟨l2, hl2⟩ : ∃ l2, l2 = l.set j ⟨fn, x⟩ := ⟨_, rfl⟩
    have hb2 : ∀ f ∈ l2, bdPG f := by
      rw [hl2]
      intro f hf
      rcases List.mem_or_eq_of_mem_set hf with h | h
      · exact ⟨(hbl f h).1, by have := (hbl f h).2; omega⟩
      · rw [h]; exact ⟨mj1, by simp only; omega⟩
    simp only [← hl2]
    have hl2n : l2.length = l.length := by rw [hl2]; simp
    by_cases h1 : (1 : Nat) < l.length
    · have h1' : (1 : Int) < l.length := by omega
      have hx0 : 0 < l2.length := by omega
      have hx1 : 1 < l2.length := by omega
      simp [hl2n, h1, h1', curD, s30_6, s30_7, s30_8, s30_11, s30_13, ]
      refine call_cur cc E57 (w_spec_l1Once b cc 16 hb oc (by omega)) (by simp) (by simp [curD]) (by simp) (by simp) fun r4 c4 hs4 hh4 hq4 hl4 o4 => ?_
      obtain ⟨u, rfl⟩ := hq4
      cases u
      · simp [curD, vendX, s30_6, s30_7, s30_8, s30_11, s30_13, ]
        intro γ hs' h1 hg
        clear hg
        exact DskA.mk' (by omega) hb2 o4
      obtain ⟨⟨an, ad⟩, ⟨en, ed⟩, rr, hlr⟩ : ∃ a e rr, l2 = a :: e :: rr := by
        match l2, hx1 with
        | a :: e :: rr, _ => exact ⟨a, e, rr, rfl⟩
      have m0 := hb2 ⟨an, ad⟩ (by rw [hlr]; simp)
      have m1 := hb2 ⟨en, ed⟩ (by rw [hlr]; simp)
      have eR := re_files (g := gi) (T := (34, 2)) (xs := l2) (ys := ⟨an, ad⟩ :: ⟨an, ed⟩ :: rr) (by rw [hlr]; simp)
      have hb3 : ∀ f ∈ (⟨an, ad⟩ : PFile) :: ⟨an, ed⟩ :: rr, bdPG f := fun f hf => by
        rcases List.mem_cons.1 hf with h | h
        · rw [h]; exact m0
        rcases List.mem_cons.1 h with h | h
        · rw [h]; exact ⟨m0.1, m1.2⟩
        · exact hb2 f (by rw [hlr]; simp [h])
      have hlr2 : l.length = rr.length + 2 := by rw [← hl2n, hlr]; simp
      have nI2 : gi ∉ idsLL (rr.map eFile) := by rw [ids_eF]; simp
      rw [hlr] at eR
      simp [eFile_eq] at eR
      simp [hlr, hlr2, eR, nI2, hgB, ids_eF, e3, eFile_eq, curD, cStr, vendX, s30_6, s30_7, s30_8, s30_11, s30_13, ]
      refine ⟨by simp [idsLL, idsL, D.ids, ids_eF], ?_⟩
      intro γ hs' h1 hg
      clear hg
      have := DskA.mk' (b := b) (c' := c4) (g := some gi) (T := some (34, 2)) (l := ⟨an, ad⟩ :: ⟨an, ed⟩ :: rr) (by simp only [List.length_cons]; omega) hb3 o4
      simpa [eFile_eq, curD] using this
    · have h1' : ¬ (1 : Int) < l.length := by omega
      simp [hl2n, h1, h1', curD, vendX, s30_6, s30_7, s30_8, s30_11, s30_13, ]
      intro γ hs' h1 hg
      clear hg
      exact DskA.mk' (by omega) hb2 oc
  | succ k =>
    obtain ⟨u, hu⟩ : ∃ u : Nat, u = k + 1 := ⟨_, rfl⟩
    have hup : 0 < u := by omega
    have hwm : IntKind.i64.wrap ((u : Int) - 1) = k := by rw [wrap64_of (by omega) (by omega)]; omega
    rw [← hu] at hl ⊢
    refine anyQ fun Q => ?_
    obtain ⟨⟨zid, zT, zx⟩⟩ := z
    simp [hup, curD, cDb, cS, s30_6, s30_7, s30_8, s30_11, s30_13, ]
    have hkl : ∀ f ∈ l, f.data.length ≤ 1000000000 := fun f hf => by have := (hbl f hf).2; omega
    have hnle := newF_le l 99
    have hvw : IntKind.i64.wrap ((newV l : Int) + 1) = ((newV l + 1 : Nat) : Int) := by rw [wrap64_of (by simp only [newV]; omega) (by simp only [newV]; omega)]; simp
    have sz := szDb_bdP hbz
    have st := st_bdP hbz
    refine call_f (w_spec_NewestVersion l hkl) (by simp [eDisk, erLL_eF]) rfl fun hs3 hh3 => ?_
    simp at hh3
    simp [hvw, curD, cDb, cS, s30_6, s30_7, s30_8, s30_11, s30_13, ]
    refine call_some (VC.track (w_spec_VersionFiles (plDb ⟨⟨zid, zT, zx⟩⟩) ((newV l + 1 : Nat) : Int) st) (by simp [eDb, plDb, plS, er_tabs]) (by simp [V.pn, pnVL])) (by simp) (by simp) fun n4 hs4 r4 hn4 hm4 hp4 hr4 => ?_
    obtain ⟨hq4, ht4⟩ := hp4
    obtain ⟨⟨fid, fT, fs⟩, rfl, pf⟩ := rp_sl tk_File hq4 ht4
    have hfl := verFs_len (plDb ⟨⟨zid, zT, zx⟩⟩) ((newV l + 1 : Nat) : Int)
    have hfs : fs.length ≤ 7 := by rw [← pf] at hfl; simpa [plS] using hfl
    simp at hn4
    have hwf := wr1 (i := fs.length) (by omega)
    simp [curD, cDb, cS, s30_6, s30_11, s30_13, ]
    refine cutT (X := (Nat × Int) × (Option Nat × Option (TypeId × Nat) × List PFile)) (fun p _ => (curO b p.1 ∧ p.2.2.2.length + 7 * k ≤ 21) ∧ (FrF B p.2.1 p.2.2.2 ∧ (p.2.2.2 ≠ [] → p.2.2.1 = some (34, 2)) ∧ ∀ f ∈ p.2.2.2, bdPF f)) (fun p => [(0, .ptr 1000 0 0), (2, .ptr 2 0 0), (3, .ptr 3 0 0), (4, .ptr 4 0 0), (5, .d (.int .i64 u))]) (fun p => [(1000, some (.box ((curD b p.1).map V.d))), (2, some (.box [.d (.sl none none [])])), (3, some (.box [.d (.sl p.2.1 p.2.2.1 (p.2.2.2.map eFile))])), (4, some (.box ((cDb ⟨⟨zid, zT, zx⟩⟩).map V.d)))]) ?_ ?_
    · intro K hK
      simp [hwf, curD, cDb, cS, s30_7, ]
      repeat' apply And.intro
      all_goals
        refine call_cur c2 E47 (w_spec_l1Below b c2 (fs.length + 1) hb o2 (by omega)) (by simp) (by simp [curD]) (by simp) (by simp) fun r5 c5 hs5 hh5 hq5 hl5 o5 => ?_
        obtain ⟨x, rfl, x0, x1, _⟩ := hq5
        simp [hwf, curD, cDb, cS, s30_7, ]
        try repeat' apply And.intro
        all_goals
          refine call_curK c5 E34 (w_spec_l1PickInt b c5 [(fs.length : Int), fs.length, x] hb o5 (by simp) (by simp)) (by simp) (by simp [curD]) (by simp) fun r6 c6 hs6 hh6 hq6 hl6 o6 => ?_
          obtain ⟨y, rfl, hy⟩ := hq6
          simp [hwf, curD, cDb, cS, s30_7, ]
          have hcl := comP_len l (plDb ⟨⟨zid, zT, zx⟩⟩) y
          have hcb := com_bd (n := y) hbl (fun t ht => (hbz.2 t ht).1)
          refine call_pq (e_spec_CommitDatabase l (plDb ⟨⟨zid, zT, zx⟩⟩) y hkl (by omega) st) (by simp [eDisk, eDb, plDb, plS, er_tabs, erLL_eF]) fun n7 hs7 r7 hn7 hm7 hp7 hl7 => ?_
          obtain ⟨g7, rfl, hg7⟩ := hp7
          simp [hwf, curD, cDb, cS, s30_7, ]
          have hB7 : B ≤ n7 := by simp at hh3 hn4 hh5 hh6 hn7; omega
          exact hK (c6, g7, some (34, 2), comP l (plDb ⟨⟨zid, zT, zx⟩⟩) y) _ ⟨⟨o6, by simp only; omega⟩, ⟨fun i hi => by have := hg7.1 i hi; omega, hg7.2⟩, fun _ => rfl, hcb⟩ rfl rfl (by simp at hh5 hh6 hn7 ⊢; omega) (by simp) (by simp [curD, cDb, cS])
    rintro ⟨c3, g', T', l'⟩ hs8 t m ⟨⟨o3, hl'⟩, hfr', hT', hbl'⟩ hh8
    simp only at o3 hl' hfr' hT' hbl'
    simp [curD, cDb, cS, s30_6, s30_11, s30_13, ]
    refine cutT (X := (Nat × Int) × Db) (fun p _ => curO b p.1 ∧ bdPd (plDb p.2)) (fun p => [(0, .ptr 1000 0 0), (2, .ptr 2 0 0), (3, .ptr 3 0 0), (4, .ptr 4 0 0), (5, .d (.int .i64 u))]) (fun p => [(1000, some (.box ((curD b p.1).map V.d))), (2, some (.box [.d (.sl none none [])])), (3, some (.box [.d (.sl g' T' (l'.map eFile))])), (4, some (.box ((cDb p.2).map V.d)))]) ?_ ?_
    · intro K hK
      simp [curD, cDb, cS, s30_8, ]
      repeat' apply And.intro
      all_goals
        refine call_del c3 E56 (w_spec_l26Delta b c3 (plDb ⟨⟨zid, zT, zx⟩⟩) hb o3 hbz) (by simp) (by simp [curD]) (by simp [eDb, plDb, plS, er_tabs]) (by simp) fun x c9 hs9 hh9 bdx okx o9 => ?_
        obtain ⟨xn, ⟨xi, xir⟩, ⟨xd, xdr⟩⟩ := x
        simp [cDelta, cStr, cReln, curD, cDb, cS, s30_8, ]
        try repeat' apply And.intro
        all_goals
          refine call_some (VC.track (w_spec_ApplyDelta (plDb ⟨⟨zid, zT, zx⟩⟩) (plDelta ⟨xn, ⟨xi, xir⟩, ⟨xd, xdr⟩⟩) sz st okx.1) (by simp [eDb, eDelta, eReln, cStr, plDb, plDelta, plReln, plStr_id, plS, plI_id, map_plI, er_tabs, erLL_map (er_cS er_cI)]) (by simp [V.pn, pnVL, eDb])) (by simp) (by simp) fun n5 hs5 r5 hn5 hm5 hp5 hr5 => ?_
          obtain ⟨hq5, ht5⟩ := hp5
          obtain ⟨w0, w1, rfl, q0, q1, t0, t1⟩ := rp_tup2 hq5 ht5
          obtain ⟨y5, rfl, py5⟩ := rp_agg tk_Db q0 t0
          obtain rfl := rp_flat q1 rfl
          have hz5 : bdPd (plDb y5) := by rw [py5]; exact bdPd_app hbz
          obtain ⟨⟨yid, yT, yx⟩⟩ := y5
          simp [curD, cDb, cS, s30_8, ]
          exact hK (c9, ⟨⟨yid, yT, yx⟩⟩) _ ⟨o9, hz5⟩ rfl rfl (by simp at hh9 hn5 ⊢; omega) (by simp) (by simp [curD, cDb, cS])
    rintro ⟨c4, ⟨⟨yid, yT, yx⟩⟩⟩ hs9 t m ⟨o4, hbz'⟩ hh9
    simp [hwm, curD, cDb, cS, s30_6, s30_7, s30_8, s30_11, s30_13, ]
    exact back (c4, (g', T', l'), ⟨⟨yid, yT, yx⟩⟩, k) ⟨⟨o4, hl'⟩, ⟨hfr', hT', hbl'⟩, hbz'⟩ (by simp only; omega) rfl (by simp at hh8 hh9 hh3 hn4 ⊢; omega) (by simp) (by simp [curD, cDb, cS])
end

end Go.Proofs.Ytepiehnhajnebaa


namespace Go.Proofs.Ytepiehnhajnebaa
open Go.Vs Go.Proofs Go
set_option maxRecDepth 100000
set_option maxHeartbeats 1000000

section
attribute [local simp] pS dSl cP cI cW
def bdK (z : Disk) : Prop := z.files.xs.length ≤ 30 ∧ ∀ f ∈ z.files.xs, bdF f
theorem sz_bdK {z : Disk} (h : bdK z) : szDk (plDisk z) := by
  refine ⟨by simp only [plDisk, plS, List.length_map]; have := h.1; omega, fun f hf => ?_⟩
  simp only [plDisk, plS, List.mem_map] at hf
  obtain ⟨y, hy, rfl⟩ := hf
  have := h.2 y hy
  exact ⟨by show y.name.length ≤ _; have := this.1; omega, by show y.data.length ≤ _; have := this.2; omega⟩
structure DsD (v : V) : Prop where
  ex : ∃ z : Disk, v = .agg ((cDisk z).map V.d) ∧ bdK z
structure WrD (v : V) : Prop where
  ex : ∃ (z : Disk) (n s : List UInt8), v = .tup [.agg ((cDisk z).map V.d), .d (.str n), .d (.str s)] ∧ bdK z ∧ n.length ≤ 10 ∧ s.length ≤ 10
structure VeD (v : V) : Prop where
  ex : ∃ (z : Db) (n : Int), v = .tup [.agg ((cDb z).map V.d), .d (.int .i64 n)] ∧ bdD z ∧ okDb z ∧ inZ n
structure CmD (v : V) : Prop where
  ex : ∃ (k : Disk) (z : Db) (n : Int), v = .tup [.agg ((cDisk k).map V.d), .agg ((cDb z).map V.d), .d (.int .i64 n)] ∧ bdK k ∧ bdD z ∧ okDb z ∧ inZ n
theorem w_laws_big (b : Sl Int) : VC Try.prog 6 [.d (dSl cW b)] (fun _ r => r = .d (.bool (decide (1048576 < (b.xs.length : Int))))) := by
  refine VC.of E s6 (by kernel_rfl) Try.func6 (by rfl) (by kernel_rfl) (by simp [Try.f6]) (by simp [Try.f6]) s6_ok fun B => ?_
  simp [Try.f6, dSl]
theorem w_spec_DrawDeleteObsoleteFiles (b : Sl Int) (hb : b.xs.length ≤ 1048576) : VC Try.prog 18 [.d (dSl cW b)] (fun _ v => DsD v) := by
  refine VC.of E s18 (by kernel_rfl) Try.func18 (by rfl) (by kernel_rfl) (by simp [Try.f18]) (by simp [Try.f18]) s18_ok fun B => ?_
  simp [Try.f18, ]
  refine call_nt (w_spec_l1New b hb) (by simp) (by simp) fun ds n0 hs0 hn0 hm0 hp0 hl0 hi0 => ?_
  obtain ⟨c0, rfl, o0⟩ := hp0
  simp [curD, ]
  refine call_cp c0 E30 (w_spec_l32Disk b c0 hb o0) (by simp) (by simp [curD]) (by simp) (by simp) fun r cs hs2 hh2 hp2 => ?_
  obtain ⟨c2, ⟨⟨kid, kT, kx⟩⟩, rfl, h1, h2, rfl, o2⟩ := hp2.ex
  simp [cDisk, cS, curD, ]
  exact ⟨⟨⟨⟨kid, kT, kx⟩⟩, by simp [cDisk, cS], h1, h2⟩⟩
theorem w_spec_DrawWriteFile (b : Sl Int) (hb : b.xs.length ≤ 1048576) : VC Try.prog 7 [.d (dSl cW b)] (fun _ v => WrD v) := by
  refine VC.of E s7 (by kernel_rfl) Try.func7 (by rfl) (by kernel_rfl) (by simp [Try.f7]) (by simp [Try.f7]) s7_ok fun B => ?_
  simp [Try.f7, ]
  refine call_nt (w_spec_l1New b hb) (by simp) (by simp) fun ds n0 hs0 hn0 hm0 hp0 hl0 hi0 => ?_
  obtain ⟨c0, rfl, o0⟩ := hp0
  simp [curD, ]
  repeat' apply And.intro
  all_goals
    refine call_cp c0 E30 (w_spec_l32Disk b c0 hb o0) (by simp) (by simp [curD]) (by simp) (by simp) fun r cs hs2 hh2 hp2 => ?_
    obtain ⟨c2, ⟨⟨kid, kT, kx⟩⟩, rfl, h1, h2, rfl, o2⟩ := hp2.ex
    simp [cDisk, cS, curD, ]
    refine call_curK c2 E31 (w_spec_l1Pick b c2 [[109, 49], [97], [122], [116, 49, 46, 114]] hb o2 (by simp) (by simp)) (by simp) (by simp [curD]) (by simp [cStr]) fun r6 c6 hs6 hh6 hq6 hl6 o6 => ?_
    obtain ⟨v, rfl, hv⟩ := hq6
    have hvl : v.length ≤ 10 := by
      simp only [List.mem_cons, List.not_mem_nil, or_false] at hv
      rcases hv with rfl | rfl | rfl | rfl <;> decide
    simp [cDisk, cS, curD, ]
    refine call_cur c6 E32 (w_spec_l1Text b c6 3 hb o6 (by omega)) (by simp) (by simp [curD]) (by simp) (by simp) fun r7 c7 hs7 hh7 hq7 hl7 o7 => ?_
    obtain ⟨x, rfl, hx⟩ := hq7
    simp [cDisk, cS, curD, ]
    exact ⟨⟨⟨⟨kid, kT, kx⟩⟩, v, x, by simp [cDisk, cS], ⟨h1, h2⟩, hvl, by omega⟩⟩
theorem w_spec_DrawVersionFiles (b : Sl Int) (hb : b.xs.length ≤ 1048576) : VC Try.prog 13 [.d (dSl cW b)] (fun _ v => VeD v) := by
  refine VC.of E s13 (by kernel_rfl) Try.func13 (by rfl) (by kernel_rfl) (by simp [Try.f13]) (by simp [Try.f13]) s13_ok fun B => ?_
  simp [Try.f13, ]
  refine call_nt (w_spec_l1New b hb) (by simp) (by simp) fun ds n0 hs0 hn0 hm0 hp0 hl0 hi0 => ?_
  obtain ⟨c0, rfl, o0⟩ := hp0
  simp [curD, ]
  repeat' apply And.intro
  all_goals
    refine call_dbA c0 E33 (w_spec_l6Any b c0 hb o0) (by simp) (by simp [curD]) (by simp) (by simp) fun z c2 hs2 hh2 bdz okz o2 => ?_
    obtain ⟨⟨zid, zT, zx⟩⟩ := z
    simp [cDb, cS, curD, ]
    refine call_curK c2 E34 (w_spec_l1PickInt b c2 [1, 2, 99, 100, 0] hb o2 (by simp) (by simp)) (by simp) (by simp [curD]) (by simp) fun r6 c6 hs6 hh6 hq6 hl6 o6 => ?_
    obtain ⟨v, rfl, hv⟩ := hq6
    have hvl : inZ v := by
      simp only [List.mem_cons, List.not_mem_nil, or_false] at hv
      simp only [inZ]; omega
    simp [cDb, cS, curD, ]
    exact ⟨⟨⟨⟨zid, zT, zx⟩⟩, v, by simp [cDb, cS], bdz, okz, hvl⟩⟩
theorem w_spec_DrawCommitDatabase (b : Sl Int) (hb : b.xs.length ≤ 1048576) : VC Try.prog 23 [.d (dSl cW b)] (fun _ v => CmD v) := by
  refine VC.of E s23 (by kernel_rfl) Try.func23 (by rfl) (by kernel_rfl) (by simp [Try.f23]) (by simp [Try.f23]) s23_ok fun B => ?_
  simp [Try.f23, ]
  refine call_nt (w_spec_l1New b hb) (by simp) (by simp) fun ds n0 hs0 hn0 hm0 hp0 hl0 hi0 => ?_
  obtain ⟨c0, rfl, o0⟩ := hp0
  simp [curD, ]
  repeat' apply And.intro
  all_goals
    refine call_cp c0 E30 (w_spec_l32Disk b c0 hb o0) (by simp) (by simp [curD]) (by simp) (by simp) fun r cs hs1 hh1 hp1 => ?_
    obtain ⟨c1, ⟨⟨kid, kT, kx⟩⟩, rfl, h1, h2, rfl, o1⟩ := hp1.ex
    simp [cDisk, cS, curD, ]
    refine call_dbA c1 E33 (w_spec_l6Any b c1 hb o1) (by simp) (by simp [curD]) (by simp) (by simp) fun z c2 hs2 hh2 bdz okz o2 => ?_
    obtain ⟨⟨zid, zT, zx⟩⟩ := z
    simp [cDb, cDisk, cS, curD, ]
    refine call_cur c2 E47 (w_spec_l1Below b c2 9 hb o2 (by omega)) (by simp) (by simp [curD]) (by simp) (by simp) fun r6 c6 hs6 hh6 hq6 hl6 o6 => ?_
    obtain ⟨v, rfl, v0, v1, _⟩ := hq6
    have v1 := v1 (by omega)
    have hw : IntKind.i64.wrap (v - 1) = v - 1 := wrap64_of (by omega) (by omega)
    simp [hw, cDb, cDisk, cS, curD, ]
    exact ⟨⟨⟨⟨kid, kT, kx⟩⟩, ⟨⟨zid, zT, zx⟩⟩, v - 1, by simp [cDb, cDisk, cS], ⟨h1, h2⟩, bdz, okz, by simp only [inZ]; omega⟩⟩
end

end Go.Proofs.Ytepiehnhajnebaa


namespace Go.Proofs.Ytepiehnhajnebaa
open Go.Vs Go.Proofs Go
set_option maxRecDepth 100000
set_option maxHeartbeats 1000000

section
attribute [local simp] plI_id plStr_id map_plI map_plStr pS cP cI cW dSl
theorem keep1_mem {f g : PFile} {fs : List PFile} (h : g ∈ keep1 f fs) : g = f := by
  obtain ⟨_, _, rfl⟩ := List.mem_map.1 h
  rfl
theorem del_mem {k : List PFile} {f : PFile} (h : f ∈ delP k) : f ∈ k := by
  rw [delP] at h
  split at h
  · simp only [keepP, List.mem_flatMap] at h
    obtain ⟨a, ha, hf⟩ := h
    rw [keep1_mem hf]; exact ha
  · cases h
theorem w_laws_FnDeleteObsoleteFiles (b : Sl Int) :
   VC Try.prog 4 [.d (dSl cW b)] (fun _ r => r = .d (.bool true)) := by
  refine VC.of E s4 (by kernel_rfl) Try.func4 (by rfl) (by kernel_rfl) (by simp [Try.f4]) (by simp [Try.f4]) s4_ok fun B => ?_
  simp [Try.f4, s4_7, s4_7, ]
  refine call_pure (w_laws_big b) rfl (by simp) rfl fun hz zz => ?_
  simp at zz
  by_cases hb : (1048576 : Int) < b.xs.length
  · simp [hb]
  simp [hb, s4_7, ]
  refine call_some (w_spec_DrawDeleteObsoleteFiles b (by omega)) rfl (by simp) fun n1 hs1 r1 hn1 hm1 hp1 hr1 => ?_
  obtain ⟨⟨⟨kid, kT, kx⟩⟩, rfl, bdk⟩ := hp1.ex
  have szk := sz_bdK bdk
  obtain ⟨⟨K⟩, hA⟩ : ∃ A, A = plDisk ⟨⟨kid, kT, kx⟩⟩ := ⟨_, rfl⟩
  rw [← hA] at szk
  have hdl := del_law K
  have eA : ∀ {Y : Disk} {X : List PFile}, plDisk Y = ⟨X⟩ → erLL (Y.files.xs.map cFile) = X.map eFile := fun h => er_dsk h
  have eK : erLL (kx.map cFile) = K.map eFile := er_dsk hA.symm
  have hkl : K.length ≤ 30 := by have := bdk.1; have e : K.length = kx.length := by simpa [plDisk, plS] using congrArg (fun d : PDisk => d.files.length) hA
                                 simp only at this; omega
  simp [cDisk, cS, eDisk, s4_7, ]
  refine call_pq (e_impl_DeleteObsoleteFiles K szk.2 szk.1) (by simp [cDisk, cS, eDisk, eK]) fun n2 hs2 r2 hn2 hm2 hp2 hl2 => ?_
  obtain ⟨⟨⟨xid, xT, xx⟩⟩, rfl, px, kx2, _⟩ := hp2
  have eX : erLL (xx.map cFile) = (delP K).map eFile := er_dsk px
  have xl : xx.length = (delP K).length := by simpa [plDisk, plS] using congrArg (fun d : PDisk => d.files.length) px
  have szx : szDk ⟨delP K⟩ := by
    refine ⟨by show (delP K).length ≤ _; have := hdl.2.2.2; omega, fun f hf => szk.2 f (del_mem hf)⟩
  simp at hn2
  simp [cDisk, cS, eDisk, s4_7, ]
  refine call_pq (e_impl_RecoverDatabase K fun f hf => (szk.2 f hf).2) (by simp [cDisk, cS, eDisk, eK]) fun n3 hs3 r3 hn3 hm3 hp3 hl3 => ?_
  obtain ⟨⟨⟨did, dT, dx⟩⟩, rfl, pd, _, _⟩ := hp3
  simp at hn3
  simp [cDisk, cDb, cS, eDisk, s4_7, ]
  refine call_pq (e_impl_RecoverDatabase (delP K) fun f hf => (szx.2 f hf).2) (by simp [cDisk, cS, eDisk, eX]) fun n4 hs4 r4 hn4 hm4 hp4 hl4 => ?_
  obtain ⟨⟨⟨eid, eT, ex⟩⟩, rfl, pe, _, _⟩ := hp4
  simp at hn4
  simp [cDisk, cDb, cS, eDisk, s4_7, ]
  obtain ⟨D, hD⟩ : ∃ D, D = recP K := ⟨_, rfl⟩
  have hrb : recB (delP K) = recB K := by simp only [recB, hdl.1]
  rw [hdl.1, hdl.2.1] at *
  have ed : erLL (dx.map cTab) = D.tabs.map eTab := by
    have e := er_tabs dx
    have e2 : D.tabs = dx.map plTab := by rw [hD, ← pd]; rfl
    rw [e, e2]
  have ee : erLL (ex.map cTab) = D.tabs.map eTab := by
    have e := er_tabs ex
    have e2 : D.tabs = ex.map plTab := by rw [hD, ← pe]; rfl
    rw [e, e2]
  refine call_f (w_impl_IsValidDisk K) (by simp [eDisk, eK]) rfl fun hs5 hh5 => ?_
  simp at hh5
  simp [cDisk, cDb, cS, eDisk, s4_7, ]
  refine call_f (w_spec_IsValidDisk K) (by simp [eDisk, eK]) rfl fun hs6 hh6 => ?_
  simp at hh6
  simp [cDisk, cDb, cS, eDisk, s4_7, ]
  refine call_f (w_spec_NewestVersion K fun f hf => (szk.2 f hf).2) (by simp [eDisk, eK]) rfl fun hs7 hh7 => ?_
  simp at hh7
  simp [cDisk, cDb, cS, eDisk, s4_7, ]
  refine call_f (w_spec_IsValidDisk K) (by simp [eDisk, eK]) rfl fun hs8 hh8 => ?_
  simp at hh8
  cases hv : dskOk K
  · simp [cDisk, cDb, cS, eDisk, s4_7, ]
  simp [cDisk, cDb, cS, eDisk, s4_7, ]
  refine call_pq (e_impl_DeleteObsoleteFiles (delP K) szx.2 szx.1) (by simp [cDisk, cS, eDisk, eX]) fun n9 hs9 r9 hn9 hm9 hp9 hl9 => ?_
  obtain ⟨⟨⟨yid, yT, yx⟩⟩, rfl, py, _, _⟩ := hp9
  have yl : yx.length = (delP K).length := by
    have := congrArg (fun d : PDisk => d.files.length) py
    simp only [hdl.2.2.1] at this
    simpa [plDisk, plS] using this
  simp at hn9
  have hle := hdl.2.2.2
  have e1 : (yx.length : Int) = xx.length := by rw [yl, xl]
  have e2 : (xx.length : Int) ≤ kx.length := by
    have : kx.length = K.length := by simpa [plDisk, plS] using (congrArg (fun d : PDisk => d.files.length) hA).symm
    omega
  cases hR : recB K
  · simp [hrb, hR, e1, e2, cDisk, cDb, cS, eDisk, s4_7, ]
  simp [hrb, hR, e1, e2, cDisk, cDb, cS, eDisk, s4_7, ]
  refine call_f (VC.to (w_spec_EqualDatabases D D) (show _ = V.d (.bool true) by simp)) (by simp [eDb, ed, ee]) rfl fun hs10 hh10 => ?_
  simp [hrb, hR, e1, e2, cDisk, cDb, cS, eDisk, s4_7, ]
end

end Go.Proofs.Ytepiehnhajnebaa


namespace Go.Proofs.Ytepiehnhajnebaa
open Go.Vs Go.Proofs Go
set_option maxRecDepth 100000
set_option maxHeartbeats 1000000

section
attribute [local simp] plI_id plStr_id map_plI map_plStr pS cP cI cW dSl
theorem comB_dsk {k : List PFile} {d : PDb} {n : Int} (h : comB k d n = true) : dskOk k = true ∧ dbOk d = true := by
  simp only [comB, comG, Bool.and_eq_true, decide_eq_true_eq] at h
  refine ⟨h.1.2, ?_⟩
  have := ver_some h.1.1
  simp only [verB, Bool.and_eq_true] at this
  exact this.1
theorem w_laws_FnCommitRecovery (b : Sl Int) :
   VC Try.prog 5 [.d (dSl cW b)] (fun _ r => r = .d (.bool true)) := by
  refine VC.of E s5 (by kernel_rfl) Try.func5 (by rfl) (by kernel_rfl) (by simp [Try.f5]) (by simp [Try.f5]) s5_ok fun B => ?_
  simp [Try.f5, s5_6, s5_6, ]
  refine call_pure (w_laws_big b) rfl (by simp) rfl fun hz zz => ?_
  simp at zz
  by_cases hb : (1048576 : Int) < b.xs.length
  · simp [hb]
  simp [hb, s5_6, ]
  refine call_some (w_spec_DrawCommitDatabase b (by omega)) rfl (by simp) fun n1 hs1 r1 hn1 hm1 hp1 hr1 => ?_
  obtain ⟨⟨⟨kid, kT, kx⟩⟩, ⟨⟨zid, zT, zx⟩⟩, n, rfl, bdk, bdz, okz, hn⟩ := hp1.ex
  have szk := sz_bdK bdk
  obtain ⟨⟨K⟩, hA⟩ : ∃ A, A = plDisk ⟨⟨kid, kT, kx⟩⟩ := ⟨_, rfl⟩
  obtain ⟨D, hD⟩ : ∃ D, D = plDb ⟨⟨zid, zT, zx⟩⟩ := ⟨_, rfl⟩
  rw [← hA] at szk
  have std := okDb_st okz
  have bdd := bdPd_of bdz
  rw [← hD] at std bdd
  have eK : erLL (kx.map cFile) = K.map eFile := er_dsk hA.symm
  have eD : erLL (zx.map cTab) = D.tabs.map eTab := by rw [er_tabs zx, hD]; rfl
  have hkl : K.length ≤ 30 := by
    have := bdk.1
    have e : K.length = kx.length := by simpa [plDisk, plS] using congrArg (fun d : PDisk => d.files.length) hA
    simp only at this; omega
  have hkb : ∀ f ∈ K, bdPG f := fun f hf => by
    have : f ∈ (plDisk ⟨⟨kid, kT, kx⟩⟩).files := by rw [← hA]; exact hf
    simp only [plDisk, plS, List.mem_map] at this
    obtain ⟨y, hy, rfl⟩ := this
    exact bdk.2 y hy
  have szc : szDk ⟨comP K D n⟩ := ⟨by have := comP_len K D n; show (comP K D n).length ≤ _; omega, fun f hf => by
    have := com_bdG (n := n) hkb (fun t ht => (bdd.2 t ht).1) f hf
    exact ⟨by have := this.1; omega, by have := this.2; omega⟩⟩
  have hNv : ∀ f ∈ K, f.data.length ≤ 1000000000 := fun f hf => (szk.2 f hf).2
  have hNc : ∀ f ∈ comP K D n, f.data.length ≤ 1000000000 := fun f hf => (szc.2 f hf).2
  simp [cDisk, cDb, cS, eDisk, s5_6, ]
  refine call_some (t_impl_CommitDatabase ⟨⟨kid, kT, kx⟩⟩ ⟨⟨zid, zT, zx⟩⟩ n K hA.symm okz szk.2 szk.1) (by simp [cDisk, cDb, cS]) (by simp [cDisk, cDb, cS]) fun n2 hs2 r2 hn2 hm2 hp2 hr2 => ?_
  obtain ⟨⟨⟨xid, xT, xx⟩⟩, rfl, px, _⟩ := hp2
  rw [← hD] at px ⊢
  have eX : erLL (xx.map cFile) = (comP K D n).map eFile := er_dsk px
  have xl : xx.length = (comP K D n).length := by simpa [plDisk, plS] using congrArg (fun d : PDisk => d.files.length) px
  simp at hn2
  simp [cDisk, cDb, cS, eDisk, s5_6, ]
  refine call_p (w_spec_CommitDatabase K D n hNv szk.1 std) (by simp [eDisk, eDb, eK, eD]) fun hs3 hh3 hl3 => ?_
  simp at hh3
  simp [xl, cDisk, cDb, cS, eDisk, s5_6, ]
  refine call_f (w_impl_NewestVersion K hNv) (by simp [eDisk, eK]) rfl fun hs4 hh4 => ?_
  simp at hh4
  simp [cDisk, cDb, cS, eDisk, s5_6, ]
  refine call_f (w_spec_NewestVersion K hNv) (by simp [eDisk, eK]) rfl fun hs5 hh5 => ?_
  simp at hh5
  simp [cDisk, cDb, cS, eDisk, s5_6, ]
  refine call_p (w_spec_RecoverDatabase K hNv) (by simp [eDisk, eK]) fun hs6 hh6 hl6 => ?_
  simp at hh6
  simp [cDisk, cDb, cS, eDisk, eDb, s5_6, ]
  refine call_pq (e_impl_RecoverDatabase (comP K D n) hNc) (by simp [cDisk, cS, eDisk, eX]) fun n7 hs7 r7 hn7 hm7 hp7 hl7 => ?_
  obtain ⟨⟨⟨eid, eT, ex⟩⟩, rfl, pe, _, _⟩ := hp7
  simp at hn7
  simp [cDisk, cDb, cS, eDisk, eDb, s5_6, ]
  refine call_f (w_spec_IsValidDisk K) (by simp [eDisk, eK]) rfl fun hs8 hh8 => ?_
  simp at hh8
  have hnle := newF_le K 99
  have hnle2 := newF_le (comP K D n) 99
  have hvw : IntKind.i64.wrap ((newV K : Int) + 1) = (newV K : Int) + 1 := wrap64_of (by simp only [newV]; omega) (by simp only [newV]; omega)
  have eE : erLL (ex.map cTab) = (recP (comP K D n)).tabs.map eTab := by
    have e2 : (recP (comP K D n)).tabs = ex.map plTab := by rw [← pe]; rfl
    rw [er_tabs ex, e2]
  refine forgetG [(4, .ptr 4 0 0), (7, .d (.bool (comB K D n))), (10, .ptr 10 0 0), (11, .d (.int .i64 (newV K))), (12, .d (.bool (recB K))), (13, .ptr 13 0 0), (14, .d (.int .i64 (newV (comP K D n)))), (15, .d (.bool (recB (comP K D n)))), (70, .d (.bool (dskOk K)))] [(4, some (.box [.d (.sl zid zT (zx.map cTab))])), (10, some (.box [.d (.pl ((recP K).tabs.map eTab))])), (13, some (.box [.d (.sl eid eT (ex.map cTab))]))] (by simp) (by simp [cDisk, cDb, cS, eDisk, eDb]) fun t m => ?_
  cases hB : comB K D n
  · have hc := com_not hB
    have hr : recB (comP K D n) = recB K := by simp only [recB, hc.1]
    rw [hc.2] at eE
    rw [hr, hc.1]
    cases hR : recB K <;> cases hv : dskOk K
    · simp [cDisk, cDb, cS, eDisk, eDb, s5_6, ]
    · simp [cDisk, cDb, cS, eDisk, eDb, s5_6, ]
    · simp [cDisk, cDb, cS, eDisk, eDb, s5_6, ]
    · simp [cDisk, cDb, cS, eDisk, eDb, s5_6, ]
      refine call_f (VC.to (w_spec_EqualDatabases (recP K) (recP K)) (show _ = V.d (.bool true) by simp)) (by simp [eDb, eE]) rfl fun hs10 hh10 => ?_
      simp [cDisk, cDb, cS, eDisk, eDb, s5_6, ]
  have hc := com_done hB
  have hr : recB (comP K D n) = true := by simp [recB, hc.1]
  have hv := (comB_dsk hB).1
  rw [hc.2] at eE
  rw [hr, hc.1, hv]
  have hne : ¬ (newV K : Int) + 1 = newV K := by omega
  cases hR : recB K
  · simp [hvw, hne, cDisk, cDb, cS, eDisk, eDb, s5_6, ]
    refine call_f (VC.to (w_spec_EqualDatabases D D) (show _ = V.d (.bool true) by simp)) (by simp [eDb, eE, eD]) rfl fun hs10 hh10 => ?_
    simp [cDisk, cDb, cS, eDisk, eDb, s5_6, ]
  · simp [hvw, hne, cDisk, cDb, cS, eDisk, eDb, s5_6, ]
    refine call_f (VC.to (w_spec_EqualDatabases D D) (show _ = V.d (.bool true) by simp)) (by simp [eDb, eE, eD]) rfl fun hs10 hh10 => ?_
    simp [cDisk, cDb, cS, eDisk, eDb, s5_6, ]
end

end Go.Proofs.Ytepiehnhajnebaa


namespace Go.Proofs.Ytepiehnhajnebaa
open Go.Vs Go.Proofs Go
set_option maxRecDepth 100000
set_option maxHeartbeats 1000000

section
attribute [local simp] plI_id plStr_id map_plI map_plStr pS cP cI cW dSl
/-- what stands behind a loop's test is of no account where the test ends the loop -/
theorem seqAny {P : Program} {E : Md} {sc : Nat → Tr} {a b : Code} {Q : Exit → St → Prop} {σ : St} (h : ∀ b', vwp P E sc (a.seq b') Q σ) : vwp P E sc (a.seq b) Q σ := h b
theorem cF_eF (l : List File) : l.map cFile = (l.map plFile).map eFile := by
  rw [List.map_map]
  exact List.map_congr_left fun f _ => by simp [cFile, eFile, plFile, cStr]
theorem rdF_some {k : List PFile} {f : PFile} (h : f ∈ k) : (rdF k f.name).isSome = true := by
  induction k with
  | nil => cases h
  | cons a r ih =>
    rw [rdF_cons]
    split
    · rfl
    · rename_i hne
      rcases List.mem_cons.1 h with h | h
      · exact absurd (by rw [h]) hne
      · exact ih h
theorem bd_all {d : PDb} {v : Int} (_ : ∀ t ∈ d.tabs, t.name.length ≤ maxLen) : ∀ f ∈ verFs d v, f.data.length ≤ 4611686018427387904 := fun f hf => by
  rw [verFs] at hf
  split at hf
  · rename_i hB
    have hok : dbOk d = true := by simp only [verB, Bool.and_eq_true] at hB; exact hB.1
    have h6 := dbOk_len hok
    rcases List.mem_append.1 hf with h | h
    · simp only [runs, List.mem_map] at h
      obtain ⟨t, ht, rfl⟩ := h
      have := fmtRel_len t.rel
      simp only; omega
    · rw [List.mem_singleton.1 h]
      have h1 := headTx_len (l := d.tabs) fun t ht => tabOk_name (dbOk_tab hok ht)
      have h2 := ckS_in (headTx d.tabs)
      have h3 := decZ_len (n := ckS (headTx d.tabs)) (by omega)
      simp only [List.length_append]; omega
  · cases hf
theorem w_laws_FnFiles (b : Sl Int) :
   VC Try.prog 3 [.d (dSl cW b)] (fun _ r => r = .d (.bool true)) := by
  refine VC.of E s3 (by kernel_rfl) Try.func3 (by rfl) (by kernel_rfl) (by simp [Try.f3]) (by simp [Try.f3]) s3_ok fun B => ?_
  simp [Try.f3, s3_11, s3_12, s3_23, s3_11, s3_12, s3_23, ]
  refine call_pure (w_laws_big b) rfl (by simp) rfl fun hz zz => ?_
  simp at zz
  by_cases hb : (1048576 : Int) < b.xs.length
  · simp [hb]
  simp [hb, s3_11, s3_12, s3_23, ]
  refine call_some (w_spec_DrawWriteFile b (by omega)) rfl (by simp) fun n1 hs1 r1 hn1 hm1 hp1 hr1 => ?_
  obtain ⟨⟨⟨kid, kT, kx⟩⟩, n, s, rfl, bdk, hnl, hsl⟩ := hp1.ex
  have szk := sz_bdK bdk
  obtain ⟨K, hA⟩ : ∃ K, K = kx.map plFile := ⟨_, rfl⟩
  have eK : kx.map cFile = K.map eFile := by rw [cF_eF, hA]
  have hAk : plDisk ⟨⟨kid, kT, kx⟩⟩ = ⟨K⟩ := by rw [hA]; rfl
  rw [hAk] at szk
  have hkl : K.length ≤ 30 := by rw [hA, List.length_map]; exact bdk.1
  obtain ⟨X, hX⟩ : ∃ X, X = wrF K ⟨n, s⟩ := ⟨_, rfl⟩
  have hrX : ∀ nm, rdF X nm = if nm = n then some s else rdF K nm := fun nm => by rw [hX, rd_wrF]
  have hvX : dskOk K = true → dskOk X = true := fun h => by rw [hX]; exact dsk_wrF h
  simp [eK, cDisk, cS, eDisk, s3_11, s3_12, s3_23, ]
  refine call_pq (e_impl_WriteFile K n s szk.2 ⟨by simp only; omega, by simp only; omega⟩ (by omega)) (by simp [eDisk, erLL_eF]) fun n2 hs2 r2 hn2 hm2 hp2 hl2 => ?_
  obtain ⟨⟨⟨xid, xT, xx⟩⟩, rfl, px, _, _⟩ := hp2
  rw [← hX] at px
  have eX : xx.map cFile = X.map eFile := by
    have : xx.map plFile = X := congrArg (fun d : PDisk => d.files) px
    rw [cF_eF, this]
  simp at hn2
  simp [eX, cDisk, cS, eDisk, s3_11, s3_12, s3_23, ]
  refine call_f (VC.to (w_impl_ReadFile X n) (show _ = V.tup [.d (.str s), .d (.bool true)] by simp [rdD, rdB, hrX])) (by simp [eDisk, erLL_eF]) rfl fun hs3 hh3 => ?_
  simp at hh3
  simp [eK, eX, cDisk, cS, eDisk, s3_11, s3_12, s3_23, ]
  refine call_f (w_spec_IsValidDisk K) (by simp [eDisk, erLL_eF]) rfl fun hs4 hh4 => ?_
  simp at hh4
  cases hv : dskOk K
  case' false => simp [eK, eX, cDisk, cS, eDisk, s3_11, s3_12, s3_23, ]
  case' true =>
    simp [eK, eX, cDisk, cS, eDisk, s3_11, s3_12, s3_23, ]
    refine call_f (w_impl_IsValidDisk X) (by simp [eDisk, erLL_eF]) rfl fun hs5 hh5 => ?_
    simp at hh5
    simp [hvX hv, eK, eX, cDisk, cS, eDisk, s3_11, s3_12, s3_23, ]
  all_goals
    refine loop_rule (X := Nat) (fun i => i ≤ K.length) (fun i => [(0, .d (.sl b.id b.T (b.xs.map cW))), (3, .ptr 3 0 0), (4, .d (.str n)), (6, .ptr 6 0 0), (9, .d (.int .i64 i))]) (fun i => [(3, some (.box [.d (.sl kid kT (K.map eFile))])), (6, some (.box [.d (.sl xid xT (X.map eFile))]))]) (fun i => K.length - i) 0 (by simp) (by simp) (by simp) ?_
    intro i hs t m hi hh
    by_cases hlt : i < K.length
    · have hwi := wr1 (i := i) (by omega)
      obtain ⟨fn, fd, hf⟩ : ∃ fn fd, K[i] = ⟨fn, fd⟩ := ⟨_, _, rfl⟩
      have hin := rdF_some (List.getElem_mem hlt)
      rw [hf] at hin
      simp only at hin
      refine anyQ fun Q => ?_
      simp [hlt, hf, eFile_eq, s3_11, s3_12, s3_23, ]
      refine call_f (w_impl_ReadFile X fn) (by simp [eDisk, erLL_eF]) rfl fun hs6 hh6 => ?_
      simp at hh6
      simp [hlt, hf, eFile_eq, s3_11, s3_12, s3_23, ]
      refine call_f (w_spec_ReadFile K fn) (by simp [eDisk, erLL_eF]) rfl fun hs7 hh7 => ?_
      simp at hh7
      have hB : rdB X fn = true := by
        simp only [rdB, hrX]
        split
        · rfl
        · exact hin
      by_cases e : fn = n
      · generalize rdD X fn = a1
        generalize rdD K fn = a2
        rw [hB]
        have e' := eq_true e
        simp [hlt, hf, e', hwi, eFile_eq, s3_11, s3_12, s3_23, ]
        exact back (i + 1) (by omega) (by omega) rfl (by simp <;> omega) (by simp) (by simp)
      · have hD : rdD X fn = rdD K fn := by simp only [rdD, hrX, if_neg e]
        rw [hD, hB]
        generalize rdD K fn = a2
        simp [hlt, hf, hB, hD, e, hwi, eFile_eq, s3_11, s3_12, s3_23, ]
        exact back (i + 1) (by omega) (by omega) rfl (by simp <;> omega) (by simp) (by simp)
    simp [hlt, s3_11, s3_12, s3_23, ]
    refine call_some (w_spec_DrawVersionFiles b (by omega)) rfl (by simp) fun n8 hs8 r8 hn8 hm8 hp8 hr8 => ?_
    obtain ⟨⟨⟨zid, zT, zx⟩⟩, v, rfl, bdz, okz, hv⟩ := hp8.ex
    obtain ⟨D, hD⟩ : ∃ D, D = plDb ⟨⟨zid, zT, zx⟩⟩ := ⟨_, rfl⟩
    have std := okDb_st okz
    rw [← hD] at std
    have eD : erLL (zx.map cTab) = D.tabs.map eTab := by rw [er_tabs zx, hD]; rfl
    simp [cDb, cS, s3_11, s3_12, s3_23, ]
    refine call_some (t_impl_VersionFiles ⟨⟨zid, zT, zx⟩⟩ v okz) (by simp [cDb, cS]) (by simp [cDb, cS]) fun n9 hs9 r9 hn9 hm9 hp9 hr9 => ?_
    obtain ⟨⟨yid, yT, yx⟩, rfl, py, _⟩ := hp9
    rw [← hD] at py
    have hfl := verFs_len D v
    have hfb := bd_all (d := D) (v := v) std
    obtain ⟨fs, hfs⟩ : ∃ fs, fs = verFs D v := ⟨_, rfl⟩
    rw [← hfs] at py hfl hfb
    have eY : yx.map cFile = fs.map eFile := by
      have : yx.map plFile = fs := py
      rw [cF_eF, this]
    simp at hn9
    simp [eY, cDb, cS, s3_11, s3_12, s3_23, ]
    refine call_p (w_spec_VersionFiles D v std) (by simp [eDb, eD]) fun hs10 hh10 hl10 => ?_
    simp at hh10
    have eYl : yx.length = fs.length := by simpa using congrArg List.length eY
    rw [← hfs]
    simp [eY, eYl, cDb, cS, s3_11, s3_12, s3_23, ]
    refine loop_rule (X := Nat) (fun i => i ≤ fs.length) (fun i => [(16, .d (.sl yid yT (fs.map eFile))), (17, .d (.pl (fs.map eFile))), (18, .d (.int .i64 i))]) (fun i => []) (fun i => fs.length - i) 0 (by simp) (by simp) (by simp) ?_
    intro i hs t m hi hh
    by_cases hlt : i < fs.length
    · have hwi := wr1 (i := i) (by omega)
      obtain ⟨fn, fd, hf⟩ : ∃ fn fd, fs[i] = ⟨fn, fd⟩ := ⟨_, _, rfl⟩
      have hbf := hfb _ (List.getElem_mem hlt)
      rw [hf] at hbf
      simp only at hbf
      refine anyQ fun Q => ?_
      by_cases hl2 : i + 1 < fs.length
      · have hl2' : (i : Int) + 1 < fs.length := by omega
        simp [hlt, hl2, hl2', hf, hwi, eFile_eq, s3_11, s3_12, s3_23, ]
        refine call_f (w_impl_ChecksumOf fd hbf) (by simp) rfl fun hs11 hh11 => ?_
        simp at hh11
        simp [hlt, hl2, hl2', hf, hwi, eFile_eq, s3_11, s3_12, s3_23, ]
        refine call_f (w_spec_ChecksumOf fd hbf) (by simp) rfl fun hs12 hh12 => ?_
        simp at hh12
        simp [hlt, hl2, hl2', hf, hwi, eFile_eq, s3_11, s3_12, s3_23, ]
        exact back (i + 1) (by omega) (by omega) rfl (by simp <;> omega) (by simp) (by simp)
      · have hl2' : ¬ (i : Int) + 1 < fs.length := by omega
        simp [hlt, hl2, hl2', hf, hwi, eFile_eq, s3_11, s3_12, s3_23, ]
        exact back (i + 1) (by omega) (by omega) rfl (by simp <;> omega) (by simp) (by simp)
    have hie : i = fs.length := by omega
    rw [hie]
    refine seqAny fun b' => ?_
    simp [s3_11, s3_12, s3_23, ]
end

end Go.Proofs.Ytepiehnhajnebaa

