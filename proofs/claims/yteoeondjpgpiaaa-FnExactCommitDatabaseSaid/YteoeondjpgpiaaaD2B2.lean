/-
  D2B2: a part of a proof of this seat: the value-level semantics of Go code without maps, its walk rules, the frame of a row, facts of types, schedules, walks, plain lemmas (G9 G6 G10 LW3). It holds of every program and state that its hypotheses name.
-/
import Derived.Test.YteoeondjpgpiaaaD2B1
set_option linter.unusedSimpArgs false
set_option linter.unusedVariables false
set_option linter.unnecessarySimpa false
namespace Go.Proofs.Yteoeondjpgpiaaa
open Go.Vs Go.Proofs Go
set_option maxRecDepth 100000
set_option maxHeartbeats 1000000

section
attribute [local simp] plI_id plStr_id map_plI map_plStr pS cP eDisk
theorem t_impl_CommitDatabase (K : Disk) (d : Db) (n : Int) (k : List PFile) (hKk : plDisk K = ⟨k⟩) (hd : okDb d) (hk : ∀ f ∈ k, fOk f) (hkl : k.length ≤ 1000000000) : VC Try.prog 9 [.agg ((cDisk K).map V.d), .agg ((cDb d).map V.d), .d (.int .i64 n)]
   (fun m r => ∃ y : Disk, r = .tup [.agg ((cDisk y).map V.d), .d (.bool (comB k (plDb d) n))] ∧ plDisk y = ⟨comP k (plDb d) n⟩ ∧ okDisk y ∧ Good (cDisk y) (whDisk y) m) := by
  refine VC.of E s9 (by kernel_rfl) Try.func9 (by rfl) (by kernel_rfl) (by simp [Try.f9]) (by simp [Try.f9]) s9_ok fun B => ?_
  have hkd : ∀ f ∈ k, f.data.length ≤ 1000000000 := fun f hf => (hk f hf).2
  have hnle := newF_le k 99
  have hvw : IntKind.i64.wrap ((newV k : Int) + 1) = ((newV k + 1 : Nat) : Int) := by rw [wrap64_of (by simp only [newV]; omega) (by simp only [newV]; omega)]; simp
  have hvz : inZ ((newV k + 1 : Nat) : Int) := by simp only [inZ, newV]; omega
  have hdl := decZ_len hvz
  have hfl := verFs_len (plDb d) ((newV k + 1 : Nat) : Int)
  have hfo := verFs_ok (d := plDb d) hvz
  have hG : comG k (plDb d) = (decide (verFs (plDb d) ((newV k + 1 : Nat) : Int) ≠ []) && dskOk k) := rfl
  have hP : comP k (plDb d) n = if comG k (plDb d) then wrAll (wout k (hdNm ((newV k + 1 : Nat) : Int))) ((verFs (plDb d) ((newV k + 1 : Nat) : Int)).take n.toNat) else k := rfl
  have hB : comB k (plDb d) n = (comG k (plDb d) && decide (((verFs (plDb d) ((newV k + 1 : Nat) : Int)).length : Int) ≤ n)) := rfl
  have hVF := t_impl_VersionFiles d ((newV k + 1 : Nat) : Int) hd
  have hrK := rp_dsk hKk
  have heK := er_dsk hKk
  obtain ⟨⟨Kid, KT, Kx⟩⟩ := K
  obtain ⟨⟨did, dT, dx⟩⟩ := d
  simp only at heK
  obtain ⟨P, hPe⟩ : ∃ P, P = plDb ⟨⟨did, dT, dx⟩⟩ := ⟨_, rfl⟩
  rw [← hPe] at hfl hfo hG hP hB hVF ⊢
  have copy : ∀ (hh : comG k P = false), VC Try.prog 28 [.agg ((cDisk ⟨⟨Kid, KT, Kx⟩⟩).map V.d)] (fun m v => ∃ y : Disk, v = .agg ((cDisk y).map V.d) ∧ plDisk y = ⟨comP k P n⟩ ∧ okDisk y ∧ Good (cDisk y) (whDisk y) m) := fun hh => by
    have h := (e_impl_copyDisk k hk hkl).er (As := [.agg ((cDisk ⟨⟨Kid, KT, Kx⟩⟩).map V.d)]) (by simp only [rpL, hrK])
    rw [hP, if_neg (by rw [hh]; simp)]
    exact h
  simp [Try.f9, s9_5, s9_5, cDisk, cDb, cS, dSl]
  refine call_f (w_impl_NewestVersion k hkd) (by simp [heK]) rfl fun hs1 hh1 => ?_
  simp at hh1
  simp [hvw, s9_5, ]
  refine call_some hVF (by simp [cDb, cS, dSl]) (by simp) fun n2 hs2 r2 hn2 hm2 hp2 hr2 => ?_
  obtain ⟨⟨yid, yT, yf⟩, rfl, py, ky, Gy⟩ := hp2
  simp at hn2
  clear hr2 Gy
  obtain ⟨u, hu⟩ : ∃ u : Int, u = ((newV k + 1 : Nat) : Int) := ⟨_, rfl⟩
  rw [← hu] at hvw hvz hfl hfo hG hP hB py hdl
  obtain ⟨fs, hfs⟩ : ∃ fs, fs = verFs P u := ⟨_, rfl⟩
  rw [← hfs] at hfl hfo hG hP hB py
  have hyf : yf.map plFile = fs := py
  have hfn : yf.length = fs.length := by rw [← hyf]; simp
  by_cases hf : fs = []
  · have hg : comG k P = false := by rw [hG]; simp [hf]
    have hy0 : yf = [] := by rw [hf] at hfn; simpa using hfn
    rw [hg, Bool.false_and] at hB
    simp [hy0, dSl, s9_5, ]
    refine call_some (copy hg) (by simp [cDisk, cS, dSl]) (by simp [cDisk, cS, dSl]) fun n3 hs3 r3 hn3 hm3 hp3 hr3 => ?_
    obtain ⟨y, rfl, p3, k3, G3⟩ := hp3
    simp at hn3
    simp [cDisk, cS, dSl, hB, s9_5, ]
    exact ⟨y, by simp [cDisk, cS, dSl], p3, k3, G3.le (by omega)⟩
  have hfp : ¬ yf.length = 0 := by rw [hfn]; simpa using hf
  have hyne : ¬ yf = [] := fun h => hfp (by rw [h]; rfl)
  simp [hyne, dSl, s9_5, ]
  refine call_f (w_impl_IsValidDisk k) (by simp [heK]) rfl fun hs3 hh3 => ?_
  simp at hh3
  cases hdk : dskOk k
  · have hg : comG k P = false := by rw [hG]; simp [hdk]
    rw [hg, Bool.false_and] at hB
    simp [s9_5, ]
    refine call_some (copy hg) (by simp [cDisk, cS, dSl]) (by simp [cDisk, cS, dSl]) fun n4 hs4 r4 hn4 hm4 hp4 hr4 => ?_
    obtain ⟨y, rfl, p3, k3, G3⟩ := hp4
    simp at hn4
    simp [cDisk, cS, dSl, hB, s9_5, ]
    exact ⟨y, by simp [cDisk, cS, dSl], p3, k3, G3.le (by omega)⟩
  have hg : comG k P = true := by rw [hG]; simp [hdk, hf]
  rw [if_pos hg] at hP
  rw [hg, Bool.true_and] at hB
  have hu1 : ((newV k : Int) + 1) = u := by rw [hu]; simp
  rw [hu1] at hvw
  simp [hu1, hvw, s9_5, ]
  repeat' apply And.intro
  all_goals
    refine call_f (w_impl_FormatInt u hvz) (by simp) rfl fun hs4 hh4 => ?_
    simp at hh4
    simp [s9_5, ]
    refine ⟨by omega, ?_⟩
  all_goals (repeat' apply And.intro)
  all_goals
    refine call_some ((e_impl_removed k (hdNm u) hk hkl).er (As := [.agg ((cDisk ⟨⟨Kid, KT, Kx⟩⟩).map V.d), .d (.str (hdNm u))]) (by simp only [rpL, hrK]; rfl)) (by simp [cDisk, cS, dSl, hdNm]) (by simp [cDisk, cS, dSl, hdNm]) fun n5 hs5 r5 hn5 hm5 hp5 hr5 => ?_
    obtain ⟨Y0, rfl, p5, k5, G5⟩ := hp5
    simp at hn5
    have hwl := wout_len k (hdNm u)
    have hwo := wout_ok (nm := hdNm u) hk
    obtain ⟨x0, hx0⟩ : ∃ x, x = wout k (hdNm u) := ⟨_, rfl⟩
    rw [← hx0] at hP hwl hwo p5
    simp [cDisk, cS, dSl, s9_5, ]
    refine loop_rule (X := Nat × Disk) (fun p => p.1 ≤ fs.length ∧ plDisk p.2 = ⟨wrAll x0 ((fs.take n.toNat).take p.1)⟩ ∧ okDisk p.2 ∧ Good (cDisk p.2) (whDisk p.2) B) (fun p => [(2, .d (.int .i64 n)), (6, .ptr 6 0 0), (9, .d (.sl yid yT (yf.map cFile))), (10, .ptr 10 0 0), (34, .d (.sl yid yT (yf.map cFile))), (35, .d (.int .i64 yf.length)), (36, .d (.int .i64 p.1))]) (fun p => [(6, some (.box [.d (.sl none none [])])), (10, some (.box ((cDisk p.2).map V.d)))]) (fun p => fs.length - p.1) (0, Y0) ⟨by simp, by simpa [wrAll] using p5, k5, G5.le (by omega)⟩ (by simp) (by simp [cDisk, cS, dSl]) ?_
    rintro ⟨i, ⟨⟨Yid, YT, Yx⟩⟩⟩ hs t m ⟨hi, hp, hok, hgd⟩ hh
    simp only at hi hp hok hgd
    by_cases hlt : i < fs.length
    · have hwi := wr1 (i := i) (by omega)
      have hly : i < yf.length := by omega
      have hfj : fs[i] = plFile yf[i] := by simp [← hyf]
      have hfo1 := hfo _ (List.getElem_mem hlt)
      obtain ⟨⟨fn, fd⟩, hf'⟩ : ∃ f, f = yf[i] := ⟨_, rfl⟩
      have hfe : fs[i] = ⟨fn, fd⟩ := by rw [hfj, ← hf']; rfl
      rw [hfe] at hfo1
      by_cases hin : (i : Int) < n
      · have hst := take2_step hlt hin
        rw [hfe] at hst
        have hXl := wrAll_len ((fs.take n.toNat).take i) x0
        have hXo := wrAll_ok (fs := (fs.take n.toNat).take i) hwo fun f hf => hfo f (List.mem_of_mem_take (List.mem_of_mem_take hf))
        have hl7 : ((fs.take n.toNat).take i).length ≤ 7 := by rw [List.length_take, List.length_take]; omega
        have hsn := wrAll_snoc (k := x0) (fs := (fs.take n.toNat).take i) (f := ⟨fn, fd⟩)
        rw [← hst] at hsn
        obtain ⟨X, hX⟩ : ∃ X, X = wrAll x0 ((fs.take n.toNat).take i) := ⟨_, rfl⟩
        rw [← hX] at hp hXl hXo hsn
        have hrY := rp_dsk hp
        simp [hlt, hly, hfn, hin, ← hf', cDisk, cFile, cStr, cS, dSl, s9_5, ]
        refine call_some ((e_impl_WriteFile X fn fd hXo hfo1 (by omega)).er (As := [.agg ((cDisk ⟨⟨Yid, YT, Yx⟩⟩).map V.d), .d (.str fn), .d (.str fd)]) (by simp only [rpL, hrY]; rfl)) (by simp [cDisk, cS, dSl]) (by simp [cDisk, cS, dSl]) fun n6 hs6 r6 hn6 hm6 hp6 hr6 => ?_
        obtain ⟨Z, rfl, p6, k6, G6⟩ := hp6
        simp at hn6
        simp [cDisk, cS, dSl, hwi, s9_5, ]
        exact back (i + 1, Z) ⟨by simp only; omega, by rw [p6, ← hsn], k6, G6.le (by omega)⟩ (by simp only; omega) rfl (by simp <;> omega) (by simp [hfn, cFile, cStr]) (by simp [cDisk, cS, dSl])
      · have hst := take2_stop (fs := fs) hin
        simp [hlt, hly, hfn, hin, ← hf', hwi, cDisk, cFile, cStr, cS, dSl, s9_5, ]
        exact back (i + 1, ⟨⟨Yid, YT, Yx⟩⟩) ⟨by simp only; omega, by simp only; rw [hst]; exact hp, hok, hgd⟩ (by simp only; omega) rfl (by simp <;> omega) (by simp [hfn, cFile, cStr]) (by simp [cDisk, cS, dSl])
    · have hend : (fs.take n.toNat).take i = fs.take n.toNat := List.take_of_length_le (by rw [List.length_take]; omega)
      rw [hend, ← hP] at hp
      simp [hlt, hfn, hB, cDisk, cS, dSl, s9_5, ]
      exact ⟨⟨⟨Yid, YT, Yx⟩⟩, by simp [cDisk, cS, dSl], hp, hok, hgd⟩
end

end Go.Proofs.Yteoeondjpgpiaaa

namespace Go.Proofs.Yteoeondjpgpiaaa
open Go.Vs Go.Proofs Go
set_option maxRecDepth 100000
set_option maxHeartbeats 1000000

section
attribute [local simp] plI_id plStr_id map_plI map_plStr pS cP cI cStr cU8 cB eDisk eFile eTab eReln eDb
theorem w_spec_l32Load (k : List PFile) (v : Int) (hk : ∀ f ∈ k, f.data.length ≤ 1000000000) (hv : inZ v) : VC Try.prog 40 [.agg ((eDisk ⟨k⟩).map V.d), .d (.int .i64 v)] (fun _ r => r = .tup [.agg ((eDb ((loadS k v).getD ⟨[]⟩)).map V.d), .d (.bool (loadS k v).isSome)]) := by
  refine VC.ofL EP s40 (by kernel_rfl) Try.func40 (by rfl) (by kernel_rfl) (by simp [Try.f40]) (by simp [Try.f40]) s40_ok fun B hl => ?_
  have hrd : ∀ nm, (rdD k nm).length ≤ 1000000000 := fun nm => rdD_len hk
  have hdef : loadS k v = if rdB k (hdNm v) then match tabsM (tabS k v) (lns (rdD k (hdNm v))) with
    | none => none
    | some ts => if verB ⟨ts⟩ v && headEq ts (rdD k (hdNm v)) then some ⟨ts⟩ else none
  else none := rfl
  simp [Try.f40, s40_1, s40_8, s40_10, s40_12, s40_1, s40_8, s40_10, s40_12, ]
  refine call_f (w_spec_l32Head v hv) (by simp) rfl fun hs1 hh1 => ?_
  simp at hh1
  simp [s40_1, s40_8, s40_10, s40_12, ]
  refine call_f (w_spec_ReadFile k ([109] ++ decZ v)) (by simp) rfl fun hs2 hh2 => ?_
  simp at hh2
  have hnm : [109] ++ decZ v = hdNm v := rfl
  rw [hnm]
  obtain ⟨H, hH⟩ : ∃ H, H = rdD k (hdNm v) := ⟨_, rfl⟩
  have hHl : H.length ≤ 1000000000 := by rw [hH]; exact hrd _
  obtain ⟨is, his⟩ : ∃ b, b = rdB k (hdNm v) := ⟨_, rfl⟩
  rw [← hH, ← his] at hdef ⊢
  simp [s40_1, s40_8, s40_10, s40_12, ]
  refine call_p (w_spec_l5Cut H 10 hHl) (by simp) fun hs3 hh3 hl3 => ?_
  simp at hh3
  have hcl := cutB_len 10 H
  have hcm : ∀ x ∈ cutB 10 H, x.length ≤ H.length := fun x hx => cutB_mem hx
  have hll := lns_len H
  have hlg : ∀ (i : Nat) (h : i < (lns H).length), (lns H)[i] = (cutB 10 H)[i]'(by omega) := fun i h => by simp [lns]
  obtain ⟨l, hl⟩ : ∃ l, l = cutB 10 H := ⟨_, rfl⟩
  obtain ⟨L, hL⟩ : ∃ L, L = lns H := ⟨_, rfl⟩
  simp only [← hl, ← hL] at hcl hcm hll hlg hdef ⊢
  simp [s40_1, s40_8, s40_10, s40_12, ]
  refine loop_ruleL (X := Nat × List PTab) (fun p _ => TbI (tabS k v) L p.1 p.2 ∧ (∀ t ∈ p.2, t.name.length ≤ 1000000000) ∧ (is = false → p.1 = 0)) (fun p => [(1, .d (.int .i64 v)), (2, .ptr 2 0 0), (4, .ptr 4 0 0), (6, .d (.str H)), (7, .d (.bool is)), (8, .ptr 8 0 0), (9, .d (.pl (l.map cStr))), (10, .d (.int .i64 p.1))]) (fun p => [(2, some (.box [.d (.pl (k.map eFile))])), (4, some (.box [.d (.sl none none [])])), (8, some (.box [.own 900 0 p.2.length])), (900, some (.row 79 3 (p.2.map eTab)))]) (fun p => L.length - p.1) ?_ ?_
  · refine (lead_box 8 0 900 79 3 [.d (.sl none none [])] (by omega) (by omega) (by omega) (by simp) rfl).bind ?_
    rintro _ rfl
    exact Lead.of ⟨(0, []), ⟨.zero, by simp, by simp⟩, rfl, rfl, Nat.le_refl _, by simp, by simp⟩
  rintro ⟨i, acc⟩ hs t m ⟨hI, hnl, hz0⟩ hh
  have hle := hI.le
  have hal := hI.len
  simp only at hle hal hnl hz0
  have hwi := wr1 (i := i) (by omega)
  cases hisb : is
  · have hn : loadS k v = none := by rw [hdef, hisb]; rfl
    by_cases hlt : (i : Int) + 1 < l.length
    · simp [hwi, hlt, hisb, hn, s40_1, s40_8, s40_10, s40_12, ]
    · simp [hwi, hlt, hisb, hn, s40_1, s40_8, s40_10, s40_12, ]
  rw [hisb, if_pos rfl] at hdef
  by_cases hlt : i < L.length
  case neg =>
    have hlt' : ¬ (i : Int) + 1 < l.length := by omega
    have hd := hI.done (by omega)
    simp only at hd
    rw [hd] at hdef
    simp only at hdef
    have hst : ∀ t ∈ acc, t.name.length ≤ maxLen := fun t ht => by have := hnl t ht; simp only [maxLen]; omega
    simp [hwi, hlt', hisb, List.take_of_length_le, s40_1, s40_8, s40_10, s40_12, ]
    refine call_f (w_spec_IsValidDatabase ⟨acc⟩ hst) (by simp [List.take_of_length_le]) rfl fun hs4 hh4 => ?_
    simp at hh4
    cases h1 : dbOk ⟨acc⟩
    · have hn : loadS k v = none := by rw [hdef]; simp [verB, h1]
      simp [hn, s40_1, s40_8, s40_10, s40_12, ]
    simp [s40_1, s40_8, s40_10, s40_12, ]
    refine call_f (w_spec_l1In v 1 99) (by simp) rfl fun hs5 hh5 => ?_
    simp at hh5
    cases h2 : inR v 1 99
    · have hn : loadS k v = none := by rw [hdef]; simp [verB, h2]
      simp [hn, s40_1, s40_8, s40_10, s40_12, ]
    have hvb : verB ⟨acc⟩ v = true := by simp [verB, h1, h2]
    simp [List.take_of_length_le, s40_1, s40_8, s40_10, s40_12, ]
    refine call_p (w_spec_VersionFiles ⟨acc⟩ v hst) (by simp [List.take_of_length_le]) fun hs6 hh6 hl6 => ?_
    simp at hh6
    have hvf := verFs_eq hvb
    simp only at hvf
    have hrl : (runs v acc).length = acc.length := by simp
    have hwl : IntKind.i64.wrap (acc.length : Int) = acc.length := wrap64_of (by omega) (by omega)
    have hlast : ∀ X, (List.map eFile (runs v acc) ++ [[D.str (hdNm v), D.str X]])[acc.length]? = some [D.str (hdNm v), D.str X] := fun X => by rw [List.getElem?_append_right (by simp)]; simp
    rw [hvf]
    rw [hvb, Bool.true_and] at hdef
    by_cases e : headTx acc ++ decZ (ckS (headTx acc)) = H
    · rw [if_pos (by simpa [headEq] using e)] at hdef
      simp [hwl, hlast, hdef, e, List.take_of_length_le, s40_1, s40_8, s40_10, s40_12, ]
    · rw [if_neg (by simpa [headEq] using e)] at hdef
      simp [hwl, hlast, hdef, e, List.take_of_length_le, s40_1, s40_8, s40_10, s40_12, ]
  have hlt' : (i : Int) + 1 < l.length := by omega
  have hil : i < l.length := by omega
  have hxl := hcm _ (List.getElem_mem hil)
  have hstp := fun t e => hI.step hlt (t := t) e
  have hbad := hI.bad hlt
  rw [hlg i hlt] at hstp hbad
  obtain ⟨x, hx⟩ : ∃ x, x = l[i] := ⟨_, rfl⟩
  rw [← hx] at hxl hstp hbad
  simp [hwi, hlt', hil, hisb, ← hx, s40_1, s40_8, s40_10, s40_12, ]
  refine call_p (w_spec_l5Cut x 61 (by omega)) (by simp) fun hs4 hh4 hl4 => ?_
  simp at hh4
  have hwp := cutB_pos 61 x
  have hwm : ∀ y ∈ cutB 61 x, y.length ≤ x.length := fun y hy => cutB_mem hy
  have hw0 : (cutB 61 x).getD 0 [] = (cutB 61 x)[0] := getD_el _ hwp
  have hlm : lnNm x = (cutB 61 x)[0] := hw0
  have hw0l := hwm _ (List.getElem_mem hwp)
  have hck : ∀ s, lnCk x s = (decide ((cutB 61 x).length = 2) && decide (decZ (ckS s) = (cutB 61 x).getD 1 [])) := fun s => rfl
  obtain ⟨ws, hws⟩ : ∃ ws, ws = cutB 61 x := ⟨_, rfl⟩
  simp only [← hws] at hwp hwm hlm hw0l hck ⊢
  have htS : tabS k v x = if lnCk x (rdD k (runNm v (lnNm x))) then tabO k v x else none := rfl
  have htO : tabO k v x = if rdB k (runNm v (lnNm x)) && prsB (rdD k (runNm v (lnNm x))) then some ⟨lnNm x, prsR (rdD k (runNm v (lnNm x)))⟩ else none := rfl
  simp [hwp, s40_1, s40_8, s40_10, s40_12, ]
  refine call_f (w_spec_l32Run v ws[0] hv (by omega)) (by simp) rfl fun hs5 hh5 => ?_
  simp at hh5
  simp [hwp, s40_1, s40_8, s40_10, s40_12, ]
  refine call_f (w_spec_ReadFile k (runNm v ws[0])) (by simp) rfl fun hs6 hh6 => ?_
  simp at hh6
  rw [← hlm]
  have hsl := hrd (runNm v (lnNm x))
  obtain ⟨s, hs_⟩ : ∃ s, s = rdD k (runNm v (lnNm x)) := ⟨_, rfl⟩
  obtain ⟨fb, hfb⟩ : ∃ b, b = rdB k (runNm v (lnNm x)) := ⟨_, rfl⟩
  rw [← hs_] at hsl htS htO ⊢
  rw [← hfb] at htO ⊢
  simp [s40_1, s40_8, s40_10, s40_12, ]
  refine call_p (w_spec_ParseRelation s hsl) (by simp) fun hs7 hh7 hl7 => ?_
  simp at hh7
  have hckz : inZ (ckS s) := by have := ckS_in s; simp only [inZ]; omega
  have hnone : tabS k v x = none → loadS k v = none := fun h => by rw [hdef, hbad h]
  have g1i : ∀ (_ : ws.length ≠ 2), ((ws.length : Int) = 2) = False := fun h => by simp; omega
  have g1t : ∀ (_ : ws.length = 2), ((ws.length : Int) = 2) = True := fun h => by simp; omega
  by_cases g1 : ws.length = 2
  case neg =>
    have g1' := g1i g1
    have hn := hnone (by rw [htS, hck]; simp [g1])
    simp [hwp, g1', hn, s40_1, s40_8, s40_10, s40_12, ]
  have g1' := g1t g1
  have h1w : 1 < ws.length := by omega
  cases g2 : fb
  · have hn := hnone (by rw [htS, htO]; simp [g2])
    simp [hwp, g1', hn, s40_1, s40_8, s40_10, s40_12, ]
  cases g3 : prsB s
  · have hn := hnone (by rw [htS, htO]; simp [g3])
    simp [hwp, g1', hn, s40_1, s40_8, s40_10, s40_12, ]
  simp [hwp, g1', h1w, s40_1, s40_8, s40_10, s40_12, ]
  refine call_f (w_spec_ChecksumOf s (by omega)) (by simp) rfl fun hs8 hh8 => ?_
  simp at hh8
  simp [s40_1, s40_8, s40_10, s40_12, ]
  refine call_f (w_spec_FormatInt (ckS s) hckz) (by simp) rfl fun hs9 hh9 => ?_
  simp at hh9
  by_cases g4 : decZ (ckS s) = ws[1]
  case neg =>
    have hn := hnone (by rw [htS, hck, getD_el _ h1w]; simp [g4])
    simp [h1w, g4, hn, s40_1, s40_8, s40_10, s40_12, ]
  have hsome : tabS k v x = some ⟨lnNm x, prsR s⟩ := by
    rw [htS, hck, getD_el _ h1w, htO]; simp [g1, g2, g3, g4]
  have hnx := hstp _ hsome
  have hL1 : LenOk 48 (acc.length + 1) := ⟨by omega, by simp only [maxLen]; omega⟩
  rw [hal] at hL1
  simp [h1w, g4, hwp, ← hlm, hL1, hwi, hal, s40_1, s40_8, s40_10, s40_12, ]
  refine back2 (i + 1, acc ++ [⟨lnNm x, prsR s⟩]) ⟨hnx, fun t ht => ?_⟩ (by simp only; omega) rfl (by simp <;> omega) (by simp [hisb]) (by simp [hal, List.take_of_length_le])
  rcases List.mem_append.1 ht with ht | ht
  · exact hnl t ht
  · rw [List.mem_singleton.1 ht, hlm]; simp only; omega
theorem w_spec_NewestVersion (k : List PFile) (hk : ∀ f ∈ k, f.data.length ≤ 1000000000) : VC Try.prog 17 [.agg ((eDisk ⟨k⟩).map V.d)] (fun _ r => r = .d (.int .i64 (newV k))) := by
  refine VC.ofL EP s17 (by kernel_rfl) Try.func17 (by rfl) (by kernel_rfl) (by simp [Try.f17]) (by simp [Try.f17]) s17_ok fun B hl => ?_
  simp [Try.f17, s17_4, s17_4, ]
  refine loop_rule (X := Nat) (fun v => NewI k v) (fun v => [(1, .ptr 1 0 0), (3, .d (.int .i64 v))]) (fun v => [(1, some (.box [.d (.pl (k.map eFile))]))]) (fun v => v) 99 .top (by simp) (by simp) ?_
  intro v hs t m hI hh
  have hle := hI.le
  cases v with
  | zero =>
    have := hI.zero
    simp [this.1, s17_4, ]
  | succ v =>
  have hvz : inZ ((v + 1 : Nat) : Int) := by simp only [inZ]; omega
  obtain ⟨u, hu⟩ : ∃ u : Nat, u = v + 1 := ⟨_, rfl⟩
  have hup : 0 < u := by omega
  have hwm : IntKind.i64.wrap ((u : Int) - 1) = v := by rw [wrap64_of (by omega) (by omega)]; omega
  have hdn := hI.down
  have hht := fun d => hI.hit (d := d)
  rw [← hu] at hvz hdn hht ⊢
  clear hI
  simp [hup, s17_4, ]
  refine call_f (w_spec_l32Head u hvz) (by simp) rfl fun hs1 hh1 => ?_
  simp at hh1
  simp [s17_4, ]
  refine call_f (w_spec_ReadFile k ([109] ++ decZ u)) (by simp) rfl fun hs2 hh2 => ?_
  simp at hh2
  have hnm : [109] ++ decZ u = hdNm u := rfl
  rw [hnm]
  cases hb : rdB k (hdNm u)
  · have hn := hdn (loadS_no hb)
    simp [hwm, s17_4, ]
    exact back v hn (by omega) rfl (by simp <;> omega) (by simp) (by simp)
  simp [s17_4, ]
  refine call_p (w_spec_l32Load k u hk hvz) (by simp) fun hs3 hh3 hl3 => ?_
  simp at hh3
  cases hl : loadS k u with
  | none =>
    have hn := hdn hl
    simp [hwm, s17_4, ]
    exact back v hn (by omega) rfl (by simp <;> omega) (by simp) (by simp)
  | some d =>
    have hn := hht d hl
    simp [hn.1, s17_4, ]
theorem w_spec_CommitDatabase (k : List PFile) (d : PDb) (n : Int) (hk : ∀ f ∈ k, f.data.length ≤ 1000000000) (hkl : k.length ≤ 1000000000) (hst : ∀ t ∈ d.tabs, t.name.length ≤ maxLen) : VC Try.prog 6 [.agg ((eDisk ⟨k⟩).map V.d), .agg ((eDb d).map V.d), .d (.int .i64 n)] (fun _ r => r = .tup [.agg ((eDisk ⟨comP k d n⟩).map V.d), .d (.bool (comB k d n))]) := by
  refine VC.ofL EP s6 (by kernel_rfl) Try.func6 (by rfl) (by kernel_rfl) (by simp [Try.f6]) (by simp [Try.f6]) s6_ok fun B hl => ?_
  obtain ⟨ts⟩ := d
  have hnle := newF_le k 99
  have hvw : IntKind.i64.wrap ((newV k : Int) + 1) = ((newV k + 1 : Nat) : Int) := by rw [wrap64_of (by simp only [newV]; omega) (by simp only [newV]; omega)]; simp
  have hvz : inZ ((newV k + 1 : Nat) : Int) := by simp only [inZ, newV]; omega
  have hfl := verFs_len ⟨ts⟩ ((newV k + 1 : Nat) : Int)
  have hG : comG k ⟨ts⟩ = (decide (verFs ⟨ts⟩ ((newV k + 1 : Nat) : Int) ≠ []) && dskOk k) := rfl
  have hP : comP k ⟨ts⟩ n = if comG k ⟨ts⟩ then wrAll (wout k (hdNm ((newV k + 1 : Nat) : Int))) ((verFs ⟨ts⟩ ((newV k + 1 : Nat) : Int)).take n.toNat) else k := rfl
  have hB : comB k ⟨ts⟩ n = (comG k ⟨ts⟩ && decide (((verFs ⟨ts⟩ ((newV k + 1 : Nat) : Int)).length : Int) ≤ n)) := rfl
  have hL : LenOk 32 k.length := ⟨by omega, by simp only [maxLen]; omega⟩
  simp [Try.f6, s6_6, s6_10, s6_6, s6_10, ]
  refine call_f (w_spec_NewestVersion k hk) (by simp) rfl fun hs1 hh1 => ?_
  simp at hh1
  simp [hvw, s6_6, s6_10, ]
  refine call_p (w_spec_VersionFiles ⟨ts⟩ ((newV k + 1 : Nat) : Int) hst) (by simp) fun hs2 hh2 hl2 => ?_
  simp at hh2
  obtain ⟨u, hu⟩ : ∃ u : Int, u = ((newV k + 1 : Nat) : Int) := ⟨_, rfl⟩
  rw [← hu] at hvw hvz hfl hG hP hB
  simp only [← hu]
  by_cases hf : verFs ⟨ts⟩ u = []
  · have hg : comG k ⟨ts⟩ = false := by rw [hG]; simp [hf]
    rw [if_neg (by rw [hg]; simp)] at hP
    rw [hg, Bool.false_and] at hB
    simp [hf, hL, hP, hB, List.take_of_length_le, s6_6, s6_10, ]
  have hfp : ((verFs ⟨ts⟩ u).length : Int) ≠ 0 := by
    have := List.length_pos_iff.2 hf; omega
  obtain ⟨fs, hfs⟩ : ∃ fs, fs = verFs ⟨ts⟩ u := ⟨_, rfl⟩
  rw [← hfs] at hf hfp hfl hG hP hB ⊢
  simp [hf, hfp, hL, s6_6, s6_10, ]
  refine call_f (w_spec_IsValidDisk k) (by simp) rfl fun hs3 hh3 => ?_
  simp at hh3
  cases hd : dskOk k
  · have hg : comG k ⟨ts⟩ = false := by rw [hG]; simp [hd]
    rw [if_neg (by rw [hg]; simp)] at hP
    rw [hg, Bool.false_and] at hB
    simp [hP, hB, List.take_of_length_le, s6_6, s6_10, ]
  have hg : comG k ⟨ts⟩ = true := by rw [hG]; simp [hd, hf]
  rw [if_pos hg] at hP
  rw [hg, Bool.true_and] at hB
  simp [hvw, s6_6, s6_10, ]
  refine call_f (w_spec_l32Head u hvz) (by simp) rfl fun hs4 hh4 => ?_
  simp at hh4
  simp [List.take_of_length_le, s6_6, s6_10, ]
  have hnm : [109] ++ decZ u = hdNm u := rfl
  refine call_p (w_spec_l32Without k (hdNm u) (by omega)) (by simp [hdNm, List.take_of_length_le]) fun hs5 hh5 hl5 => ?_
  simp at hh5
  have hwl := wout_len k (hdNm u)
  obtain ⟨x0, hx0⟩ : ∃ x, x = wout k (hdNm u) := ⟨_, rfl⟩
  rw [← hx0] at hP hwl ⊢
  simp [s6_6, s6_10, ]
  refine loop_rule (X := Nat) (fun i => i ≤ fs.length ∧ (i : Int) ≤ max n 0) (fun i => [(2, .d (.int .i64 n)), (6, .ptr 6 0 0), (9, .d (.pl (fs.map eFile))), (10, .ptr 10 0 0), (11, .d (.int .i64 i))]) (fun i => [(6, some (.box [.d (.sl none none [])])), (10, some (.box [.d (.pl ((wrAll x0 (fs.take i)).map eFile))]))]) (fun i => fs.length - i) 0 (by simp; omega) (by simp) (by simp [wrAll]) ?_
  intro i hs t m hi hh
  have hal := wrAll_len (fs.take i) x0
  rw [List.length_take] at hal
  by_cases hlt : i < fs.length ∧ (i : Int) < n
  · have hwi := wr1 (i := i) (by omega)
    have h1 := hlt.1
    have h2 := hlt.2
    have hstp := wrAll_step (k := x0) h1
    obtain ⟨fn, fd, hf'⟩ : ∃ fn fd, fs[i] = ⟨fn, fd⟩ := ⟨_, _, rfl⟩
    rw [hf'] at hstp
    obtain ⟨X, hX⟩ : ∃ X, X = wrAll x0 (fs.take i) := ⟨_, rfl⟩
    rw [← hX] at hstp hal ⊢
    simp [h1, h2, hf', s6_6, s6_10, ]
    refine call_p (w_spec_WriteFile X fn fd (by omega)) (by simp) fun hs6 hh6 hl6 => ?_
    simp at hh6
    simp [hwi, s6_6, s6_10, ]
    exact back (i + 1) (by omega) (by omega) rfl (by simp <;> omega) (by simp) (by simp [hstp])
  · have hend : fs.take i = fs.take n.toNat := by
      by_cases h : i < fs.length
      · have : i = n.toNat := by omega
        rw [this]
      · rw [List.take_of_length_le (by omega), List.take_of_length_le (by omega)]
    rw [hend, ← hP]
    by_cases h1 : i < fs.length
    · have h2 : ¬ (i : Int) < n := fun h => hlt ⟨h1, h⟩
      simp [h1, h2, hB, s6_6, s6_10, ]
    · simp [h1, hB, s6_6, s6_10, ]
end

end Go.Proofs.Yteoeondjpgpiaaa

namespace Go.Proofs.Yteoeondjpgpiaaa
open Go.Vs Go.Proofs Go
set_option maxRecDepth 100000
set_option maxHeartbeats 1000000

theorem v_spec_NewestVersion (K : PDisk) (h : szDk K) : VC Try.prog 17 [.agg ((eDisk K).map V.d)] (fun _ r => r = .d (.int .i64 (newV K.files))) :=
  w_spec_NewestVersion K.files fun f hf => (h.2 f hf).2
theorem v_impl_NewestVersion (K : PDisk) (h : szDk K) : VC Try.prog 25 [.agg ((eDisk K).map V.d)] (fun _ r => r = .d (.int .i64 (newV K.files))) :=
  w_impl_NewestVersion K.files fun f hf => (h.2 f hf).2
theorem v_spec_CommitDatabase (K : PDisk) (d : PDb) (n : Int) (h : szDk K) (hst : ∀ t ∈ d.tabs, t.name.length ≤ maxLen) : VC Try.prog 6 [.agg ((eDisk K).map V.d), .agg ((eDb d).map V.d), .d (.int .i64 n)] (fun _ r => r = .tup [.agg ((eDisk ⟨comP K.files d n⟩).map V.d), .d (.bool (comB K.files d n))]) :=
  w_spec_CommitDatabase K.files d n (fun f hf => (h.2 f hf).2) h.1 hst
theorem u_impl_CommitDatabase (y : Disk) (d : Db) (n : Int) (h : szDk (plDisk y)) (hd : okDb d) : VC Try.prog 9 [.agg ((cDisk y).map V.d), .agg ((cDb d).map V.d), .d (.int .i64 n)]
   (fun m r => ∃ z : Disk, r = .tup [.agg ((cDisk z).map V.d), .d (.bool (comB (plDisk y).files (plDb d) n))] ∧ plDisk z = ⟨comP (plDisk y).files (plDb d) n⟩ ∧ okDisk z ∧ Good (cDisk z) (whDisk z) m) :=
  t_impl_CommitDatabase y d n (plDisk y).files rfl hd h.2 h.1

end Go.Proofs.Yteoeondjpgpiaaa

namespace Go.Proofs.Yteoeondjpgpiaaa
open Go.Vs Go.Proofs Go
set_option maxRecDepth 100000
set_option maxHeartbeats 1000000

theorem w_laws_FnExactCommitDatabase (a : Disk) (b : Db) (n : Int) (k_a : okDisk a) (k_b : okDb b) :
   VC Try.prog 3 [.agg ((cDisk a).map V.d), .agg ((cDb b).map V.d), .d (.int .i64 n)] (fun _ r => r = .d (.bool true)) := by
  refine VC.ofB E s3 (by kernel_rfl) Try.func3 (by rfl) (by kernel_rfl) (by simp [Try.f3]) (by simp [Try.f3]) s3_ok fun B hB => ?_
  have ua_a : ∀ g ∈ idsL (cDisk a), g < B := fun g hg => hB g (by simp only [idsVL, ids_agg, idsVL_map_d, V.ids, idsL_cS, List.mem_append] at hg ⊢; simp [hg])
  have ua_b : ∀ g ∈ idsL (cDb b), g < B := fun g hg => hB g (by simp only [idsVL, ids_agg, idsVL_map_d, V.ids, idsL_cS, List.mem_append] at hg ⊢; simp [hg])
  simp [Try.f3, s3_14, s3_16, s3_14, s3_16, cDb, cDisk, cS, cI, cS]
  refine call_pure (w_laws_szDisk a _ (by omega) (by omega) k_a) rfl (by simp) rfl fun hz_a zz_a => ?_
  simp at zz_a
  by_cases s_a : (swDisk a : Int) ≤ 1048576
  case neg =>
    rw [szv_neg (by omega)]; simp
    all_goals exact fun h => absurd h (by decide)
  rw [szv_pos s_a]
  simp [show ¬ (1048576 : Int) - swDisk a < 0 by omega, show ¬ (1048576 : Int) < swDisk a by omega, s_a]
  refine call_pure (w_laws_szDatabase b _ (by omega) (by omega) k_b) rfl (by simp) rfl fun hz_b zz_b => ?_
  simp at zz_b
  by_cases s_b : (swDb b : Int) ≤ 1048576 - swDisk a
  case neg =>
    rw [szv_neg (by omega)]; simp
    all_goals exact fun h => absurd h (by decide)
  rw [szv_pos s_b]
  simp [show ¬ (1048576 - swDisk a : Int) - swDb b < 0 by omega, show ¬ (1048576 - swDisk a : Int) < swDb b by omega, s_b]
  have hw_a := wbT_Disk a
  have hw_b := wbT_Db b
  have hsz : ∀ y : Disk, plDisk y = plDisk a → szDk (plDisk y) := fun y h => by rw [h]; exact szDk_sw a (by omega)
  refine cutT (X := Disk) (fun w0 hs => plDisk w0 = ⟨comP ((plDisk a)).files (plDb b) n⟩ ∧ ∀ g ∈ idsL (cDisk w0), g < hs) (fun w0 => [(3, .ptr 3 0 0), (4, .ptr 4 0 0), (2, .d (.int .i64 n)), (8, .ptr 8 0 0), (9, .d (.bool (comB ((plDisk a)).files (plDb b) n)))]) (fun w0 => [(3, some (.box ((cDisk a).map V.d))), (4, some (.box ((cDb b).map V.d))), (8, some (.box ((cDisk w0).map V.d)))]) ?_ ?_
  · intro K hK
    simp [s3_8, cDb, cDisk, cS, cI, cS]
    repeat' apply And.intro
    all_goals
      refine call_some (w_laws_toDisk a k_a (by omega)) rfl (by simp) fun n1 hs1 r1 hn1 hm1 hp1 hr1 => ?_
      obtain ⟨y1, rfl, p1, k1, G1⟩ := hp1
      have u1 : ∀ g ∈ idsL (cDisk y1), g < hs1 := fun g hg => hr1 g (by first | (rw [ids_agg]; exact hg) | (simpa only [V.ids, idsL_cS] using hg))
      simp at hn1
      have e1 : wtTDisk y1 = wtTDisk a := by rw [wtTDisk_pl, wtTDisk_pl, p1]
      simp [s3_14, s3_16, cDb, cDisk, cS, cI, cS]
      repeat' apply And.intro
      all_goals
        refine call_some (w_laws_toDatabase b k_b (by omega)) rfl (by simp) fun n2 hs2 r2 hn2 hm2 hp2 hr2 => ?_
        obtain ⟨y2, rfl, p2, k2, G2⟩ := hp2
        have u2 : ∀ g ∈ idsL (cDb y2), g < hs2 := fun g hg => hr2 g (by first | (rw [ids_agg]; exact hg) | (simpa only [V.ids, idsL_cS] using hg))
        simp at hn2
        have e2 : wtTDb y2 = wtTDb b := by rw [wtTDb_pl, wtTDb_pl, p2]
        simp [s3_14, s3_16, cDb, cDisk, cS, cI, cS]
        repeat' apply And.intro
        all_goals
          refine call_some (VC.track (VC.to (v_spec_CommitDatabase (plDisk y1) (plDb y2) n (hsz _ p1) (okDb_strs k2)) (show _ = V.tup [.agg ((eDisk (⟨comP ((plDisk a)).files (plDb b) n⟩)).map V.d), .d (.bool (comB ((plDisk a)).files (plDb b) n))] by rw [p1, p2])) (by simp [er_I, er_SI, er_Str, er_File, er_Tab, er_Db, er_Delta, er_Atom, er_VRel, eDb, eDisk, plDb, plDisk, cP, pS, plI]) (by simp [V.pn, pnVL])) rfl (by simp) fun n3 hs3 r3 hn3 hm3 hp3 hr3 => ?_
          obtain ⟨hq3, ht3⟩ := hp3
          obtain ⟨x30, x31, rfl, q30, q31, t30, t31⟩ := rp_tup2 hq3 ht3
          obtain ⟨w0, rfl, pw0⟩ := rp_agg tk_Disk q30 t30
          obtain rfl := rp_flat q31 rfl
          have uw0 : ∀ g ∈ idsL (cDisk w0), g < hs3 := fun g hg => hr3 g (by simp only [V.ids, idsVL, ids_agg, idsVL_map_d, idsL_cS, List.mem_append] at hg ⊢; simp [hg])
          simp at hn3
          clear hr3
          simp [s3_14, s3_16, cDb, cDisk, cS, cI, cS]
          exact hK w0 _ ⟨pw0, uw0⟩ rfl rfl (by simp <;> omega) (by simp [cDb, cDisk, cS, cI, cS]) (by simp [cDb, cDisk, cS, cI, cS])
  intro w0 hsw tw mw hw hhw
  obtain ⟨pw0, uw0⟩ := hw
  simp [s3_14, s3_16, cDb, cDisk, cS, cI, cS]
  refine call_some (w_laws_toDisk a k_a (by omega)) rfl (by simp) fun n4 hs4 r4 hn4 hm4 hp4 hr4 => ?_
  obtain ⟨y4, rfl, p4, k4, G4⟩ := hp4
  have u4 : ∀ g ∈ idsL (cDisk y4), g < hs4 := fun g hg => hr4 g (by first | (rw [ids_agg]; exact hg) | (simpa only [V.ids, idsL_cS] using hg))
  simp at hn4
  have e4 : wtTDisk y4 = wtTDisk a := by rw [wtTDisk_pl, wtTDisk_pl, p4]
  simp [s3_14, s3_16, cDb, cDisk, cS, cI, cS]
  refine call_some (w_laws_toDatabase b k_b (by omega)) rfl (by simp) fun n5 hs5 r5 hn5 hm5 hp5 hr5 => ?_
  obtain ⟨y5, rfl, p5, k5, G5⟩ := hp5
  have u5 : ∀ g ∈ idsL (cDb y5), g < hs5 := fun g hg => hr5 g (by first | (rw [ids_agg]; exact hg) | (simpa only [V.ids, idsL_cS] using hg))
  simp at hn5
  have e5 : wtTDb y5 = wtTDb b := by rw [wtTDb_pl, wtTDb_pl, p5]
  simp [s3_14, s3_16, cDb, cDisk, cS, cI, cS]
  refine call_some (u_impl_CommitDatabase y4 y5 n (hsz _ p4) k5) rfl (by simp) fun n6 hs6 r6 hn6 hm6 hp6 hr6 => ?_
  obtain ⟨g0, rfl, pg0, kg0, Gg0⟩ := hp6
  have ug0 : ∀ g ∈ idsL (cDisk g0), g < hs6 := fun g hg => hr6 g (by simp only [V.ids, idsVL, ids_agg, idsVL_map_d, idsL_cS, List.mem_append] at hg ⊢; simp [hg])
  have lg0 := Gg0.lo
  simp only [p4] at pg0
  simp only [p5] at pg0
  simp at hn6
  simp [s3_14, s3_16, cDb, cDisk, cS, cI, cS, p4, p5]
  have hbg0 : 1 + (wtTDisk g0 : Int) ≤ 4611686018427387904 := by
    rw [wtTDisk_pl, pg0]
    have := wp_files (comP (plDisk a).files (plDb b) n); have := comP_len (plDisk a).files (plDb b) n; have := (hsz a rfl).1; omega
  refine call_pure (w_laws_eqDisk g0 w0 kg0) rfl (by simp) rfl fun hs7 hh7 => ?_
  simp at hh7
  simp [s3_14, s3_16, cDb, cDisk, cS, cI, cS, pg0, pw0]
  refine call_some (w_laws_toDisk a k_a (by omega)) rfl (by simp) fun n8 hs8 r8 hn8 hm8 hp8 hr8 => ?_
  obtain ⟨y8, rfl, p8, k8, G8⟩ := hp8
  have u8 : ∀ g ∈ idsL (cDisk y8), g < hs8 := fun g hg => hr8 g (by first | (rw [ids_agg]; exact hg) | (simpa only [V.ids, idsL_cS] using hg))
  simp at hn8
  have e8 : wtTDisk y8 = wtTDisk a := by rw [wtTDisk_pl, wtTDisk_pl, p8]
  simp [s3_14, s3_16, cDb, cDisk, cS, cI, cS]
  refine call_pure (w_laws_eqDisk y4 y8 k4) rfl (by simp) rfl fun hs9 hh9 => ?_
  simp at hh9
  simp [s3_14, s3_16, cDb, cDisk, cS, cI, cS, p4, p8]
  refine call_some (w_laws_toDatabase b k_b (by omega)) rfl (by simp) fun n10 hs10 r10 hn10 hm10 hp10 hr10 => ?_
  obtain ⟨y10, rfl, p10, k10, G10⟩ := hp10
  have u10 : ∀ g ∈ idsL (cDb y10), g < hs10 := fun g hg => hr10 g (by first | (rw [ids_agg]; exact hg) | (simpa only [V.ids, idsL_cS] using hg))
  simp at hn10
  have e10 : wtTDb y10 = wtTDb b := by rw [wtTDb_pl, wtTDb_pl, p10]
  simp [s3_14, s3_16, cDb, cDisk, cS, cI, cS]
  refine call_pure (w_laws_eqDatabase y5 y10 k5) rfl (by simp) rfl fun hs11 hh11 => ?_
  simp at hh11
  simp [s3_14, s3_16, cDb, cDisk, cS, cI, cS, p5, p10]
  refine call_x (E12) (by simp) (by simp) (by simp) (fun q hq => .inl ?_) (w_laws_markDisk y4 (1) (by omega) (by omega) G4.wh k4 G4.nd) fun n12 hs12 r12 cs12 ws12 hn12 hm12 hp12 hr12 hw12 => ?_
  · have := G4.lo q (by simpa only [idsL_cS] using hq)
    show B ≤ q
    omega
  obtain ⟨rfl, rfl⟩ := hp12
  simp at hn12
  have hre12 : reL (phi (idsL (cDisk y4)) (cDisk (mkTDisk y4 (1)))) (cDisk y4) = some (cDisk (mkTDisk y4 (1))) := re_sim (simT_Disk G4.wh _) (marksTDisk.ids _ _) G4.nd
  have ho12_a : reL (phi (idsL (cDisk y4)) (cDisk (mkTDisk y4 (1)))) (cDisk a) = some (cDisk a) := re_same fun g hg h => by
    skip
    have h1 := G4.lo g (by simpa only [idsL_cS] using hg); have h2 := ua_a g h; omega
  have ho12_b : reL (phi (idsL (cDisk y4)) (cDisk (mkTDisk y4 (1)))) (cDb b) = some (cDb b) := re_same fun g hg h => by
    skip
    have h1 := G4.lo g (by simpa only [idsL_cS] using hg); have h2 := ua_b g h; omega
  have ho12_w0 : reL (phi (idsL (cDisk y4)) (cDisk (mkTDisk y4 (1)))) (cDisk w0) = some (cDisk w0) := re_same fun g hg h => by
    skip
    have h1 := G4.lo g (by simpa only [idsL_cS] using hg); have h2 := uw0 g h; omega
  have ho12_g0 : reL (phi (idsL (cDisk y4)) (cDisk (mkTDisk y4 (1)))) (cDisk g0) = some (cDisk g0) := re_same fun g hg h => by
    skip
    have h1 := u4 g (by simpa only [idsL_cS] using hg); have h2 := lg0 g h; omega
  have ho12_y5 : reL (phi (idsL (cDisk y4)) (cDisk (mkTDisk y4 (1)))) (cDb y5) = some (cDb y5) := re_same fun g hg h => by
    skip
    have h1 := u4 g (by simpa only [idsL_cS] using hg); have h2 := (G5.lo) g h; omega
  replace hre12 := reVL_map hre12
  replace ho12_a := reVL_map ho12_a
  replace ho12_b := reVL_map ho12_b
  replace ho12_w0 := reVL_map ho12_w0
  replace ho12_g0 := reVL_map ho12_g0
  replace ho12_y5 := reVL_map ho12_y5
  simp only [s3_14, s3_16, cDb, cDisk, cS, cI, cS, List.cons_append, List.nil_append, List.map_cons, List.map_nil, reVL_cons, reVL_nil, List.cons.injEq, and_true, reV_int, reV_str, true_and, mkTDb, mkTDisk, mkTReln, mkTTab] at hre12 ho12_a ho12_b ho12_w0 ho12_g0 ho12_y5
  simp [hre12, ho12_a, ho12_b, ho12_w0, ho12_g0, ho12_y5, s3_14, s3_16, cDb, cDisk, cS, cI, cS, mkTDb, mkTDisk, mkTReln, mkTTab, show ¬ (1 + wtTDisk y4 : Int) < 0 by omega, show (0 : Int) ≤ 1 + wtTDisk y4 by omega]
  refine call_x (E13) (by simp) (by simp) (by simp) (fun q hq => .inl ?_) (w_laws_markDatabase y5 (1 + wtTDisk y4) (by omega) (by omega) G5.wh k5 G5.nd) fun n13 hs13 r13 cs13 ws13 hn13 hm13 hp13 hr13 hw13 => ?_
  · have := G5.lo q (by simpa only [idsL_cS] using hq)
    show B ≤ q
    omega
  obtain ⟨rfl, rfl⟩ := hp13
  simp at hn13
  have hre13 : reL (phi (idsL (cDb y5)) (cDb (mkTDb y5 (1 + wtTDisk y4)))) (cDb y5) = some (cDb (mkTDb y5 (1 + wtTDisk y4))) := re_sim (simT_Db G5.wh _) (marksTDb.ids _ _) G5.nd
  have ho13_a : reL (phi (idsL (cDb y5)) (cDb (mkTDb y5 (1 + wtTDisk y4)))) (cDisk a) = some (cDisk a) := re_same fun g hg h => by
    skip
    have h1 := G5.lo g (by simpa only [idsL_cS] using hg); have h2 := ua_a g h; omega
  have ho13_b : reL (phi (idsL (cDb y5)) (cDb (mkTDb y5 (1 + wtTDisk y4)))) (cDb b) = some (cDb b) := re_same fun g hg h => by
    skip
    have h1 := G5.lo g (by simpa only [idsL_cS] using hg); have h2 := ua_b g h; omega
  have ho13_w0 : reL (phi (idsL (cDb y5)) (cDb (mkTDb y5 (1 + wtTDisk y4)))) (cDisk w0) = some (cDisk w0) := re_same fun g hg h => by
    skip
    have h1 := G5.lo g (by simpa only [idsL_cS] using hg); have h2 := uw0 g h; omega
  have ho13_g0 : reL (phi (idsL (cDb y5)) (cDb (mkTDb y5 (1 + wtTDisk y4)))) (cDisk g0) = some (cDisk g0) := re_same fun g hg h => by
    skip
    have h1 := u5 g (by simpa only [idsL_cS] using hg); have h2 := lg0 g h; omega
  have ho13_y4 : reL (phi (idsL (cDb y5)) (cDb (mkTDb y5 (1 + wtTDisk y4)))) (cDisk (mkTDisk y4 (1))) = some (cDisk (mkTDisk y4 (1))) := re_same fun g hg h => by
    rw [marksTDisk.ids] at h
    have h1 := G5.lo g (by simpa only [idsL_cS] using hg); have h2 := u4 g h; omega
  replace hre13 := reVL_map hre13
  replace ho13_a := reVL_map ho13_a
  replace ho13_b := reVL_map ho13_b
  replace ho13_w0 := reVL_map ho13_w0
  replace ho13_g0 := reVL_map ho13_g0
  replace ho13_y4 := reVL_map ho13_y4
  simp only [s3_14, s3_16, cDb, cDisk, cS, cI, cS, List.cons_append, List.nil_append, List.map_cons, List.map_nil, reVL_cons, reVL_nil, List.cons.injEq, and_true, reV_int, reV_str, true_and, mkTDb, mkTDisk, mkTReln, mkTTab] at hre13 ho13_a ho13_b ho13_w0 ho13_g0 ho13_y4
  simp [hre13, ho13_a, ho13_b, ho13_w0, ho13_g0, ho13_y4, s3_14, s3_16, cDb, cDisk, cS, cI, cS, mkTDb, mkTDisk, mkTReln, mkTTab, show ¬ (1 + wtTDisk y4 + wtTDb y5 : Int) < 0 by omega, show (0 : Int) ≤ 1 + wtTDisk y4 + wtTDb y5 by omega]
  try simp [show ¬ (1 + wtTDisk y4 + wtTDb y5 : Int) < 0 by omega, show (0 : Int) ≤ 1 + wtTDisk y4 + wtTDb y5 by omega]
  refine call_pure (w_laws_eqDisk g0 w0 kg0) rfl (by simp) rfl fun hs14 hh14 => ?_
  simp at hh14
  simp [s3_14, s3_16, cDb, cDisk, cS, cI, cS, pg0, pw0]
  refine call_x (E12) (by simp) (by simp) (by simp) (fun q hq => .inl ?_) (w_laws_markDisk g0 (1) (by omega) (by omega) Gg0.wh kg0 Gg0.nd) fun n15 hs15 r15 cs15 ws15 hn15 hm15 hp15 hr15 hw15 => ?_
  · have := Gg0.lo q (by simpa only [idsL_cS] using hq)
    show B ≤ q
    omega
  obtain ⟨rfl, rfl⟩ := hp15
  simp at hn15
  have hre15 : reL (phi (idsL (cDisk g0)) (cDisk (mkTDisk g0 (1)))) (cDisk g0) = some (cDisk (mkTDisk g0 (1))) := re_sim (simT_Disk Gg0.wh _) (marksTDisk.ids _ _) Gg0.nd
  have ho15_a : reL (phi (idsL (cDisk g0)) (cDisk (mkTDisk g0 (1)))) (cDisk a) = some (cDisk a) := re_same fun g hg h => by
    skip
    have h1 := Gg0.lo g (by simpa only [idsL_cS] using hg); have h2 := ua_a g h; omega
  have ho15_b : reL (phi (idsL (cDisk g0)) (cDisk (mkTDisk g0 (1)))) (cDb b) = some (cDb b) := re_same fun g hg h => by
    skip
    have h1 := Gg0.lo g (by simpa only [idsL_cS] using hg); have h2 := ua_b g h; omega
  have ho15_w0 : reL (phi (idsL (cDisk g0)) (cDisk (mkTDisk g0 (1)))) (cDisk w0) = some (cDisk w0) := re_same fun g hg h => by
    skip
    have h1 := Gg0.lo g (by simpa only [idsL_cS] using hg); have h2 := uw0 g h; omega
  have ho15_y4 : reL (phi (idsL (cDisk g0)) (cDisk (mkTDisk g0 (1)))) (cDisk (mkTDisk y4 (1))) = some (cDisk (mkTDisk y4 (1))) := re_same fun g hg h => by
    rw [marksTDisk.ids] at h
    have h1 := Gg0.lo g (by simpa only [idsL_cS] using hg); have h2 := u4 g h; omega
  have ho15_y5 : reL (phi (idsL (cDisk g0)) (cDisk (mkTDisk g0 (1)))) (cDb (mkTDb y5 (1 + wtTDisk y4))) = some (cDb (mkTDb y5 (1 + wtTDisk y4))) := re_same fun g hg h => by
    rw [marksTDb.ids] at h
    have h1 := Gg0.lo g (by simpa only [idsL_cS] using hg); have h2 := u5 g h; omega
  replace hre15 := reVL_map hre15
  replace ho15_a := reVL_map ho15_a
  replace ho15_b := reVL_map ho15_b
  replace ho15_w0 := reVL_map ho15_w0
  replace ho15_y4 := reVL_map ho15_y4
  replace ho15_y5 := reVL_map ho15_y5
  simp only [s3_14, s3_16, cDb, cDisk, cS, cI, cS, List.cons_append, List.nil_append, List.map_cons, List.map_nil, reVL_cons, reVL_nil, List.cons.injEq, and_true, reV_int, reV_str, true_and, mkTDb, mkTDisk, mkTReln, mkTTab] at hre15 ho15_a ho15_b ho15_w0 ho15_y4 ho15_y5
  simp [hre15, ho15_a, ho15_b, ho15_w0, ho15_y4, ho15_y5, s3_14, s3_16, cDb, cDisk, cS, cI, cS, mkTDb, mkTDisk, mkTReln, mkTTab, show ¬ (1 + wtTDisk g0 : Int) < 0 by omega, show (0 : Int) ≤ 1 + wtTDisk g0 by omega]
  refine call_pure (w_laws_heldDisk (mkTDisk g0 (1)) (1) (by omega) (by rw [marksTDisk.wt]; omega) (ok_mkTDisk _ _ kg0)) rfl (by simp) rfl fun hs16 hh16 => ?_
  simp at hh16
  rw [marksTDisk.hl, marksTDisk.wt]
  simp [show ¬ (1 + wtTDisk g0 : Int) < 0 by omega]
  refine cutT (X := Disk) (fun h0 _ => plDisk h0 = ⟨comP ((plDisk a)).files (plDb b) n⟩ ∧ okDisk h0) (fun h0 => [(8, .ptr 8 0 0), (12, .ptr 12 0 0), (17, .ptr 17 0 0), (9, .d (.bool (comB ((plDisk a)).files (plDb b) n))), (13, .d (.bool (comB ((plDisk a)).files (plDb b) n))), (18, .d (.bool (comB ((plDisk a)).files (plDb b) n))), (15, .d (.int .i64 (1 + wtTDisk g0)))]) (fun h0 => [(8, some (.box ((cDisk w0).map V.d))), (12, some (.box ((cDisk (mkTDisk g0 (1))).map V.d))), (17, some (.box ((cDisk h0).map V.d)))]) ?_ ?_
  · intro K hK
    simp [s3_31, cDb, cDisk, cS, cI, cS]
    repeat' apply And.intro
    all_goals
      refine call_some (w_laws_toDisk a k_a (by omega)) rfl (by simp) fun n17 hs17 r17 hn17 hm17 hp17 hr17 => ?_
      obtain ⟨y17, rfl, p17, k17, G17⟩ := hp17
      have u17 : ∀ g ∈ idsL (cDisk y17), g < hs17 := fun g hg => hr17 g (by first | (rw [ids_agg]; exact hg) | (simpa only [V.ids, idsL_cS] using hg))
      simp at hn17
      have e17 : wtTDisk y17 = wtTDisk a := by rw [wtTDisk_pl, wtTDisk_pl, p17]
      simp [s3_14, s3_16, cDb, cDisk, cS, cI, cS]
      repeat' apply And.intro
      all_goals
        refine call_some (w_laws_toDatabase b k_b (by omega)) rfl (by simp) fun n18 hs18 r18 hn18 hm18 hp18 hr18 => ?_
        obtain ⟨y18, rfl, p18, k18, G18⟩ := hp18
        have u18 : ∀ g ∈ idsL (cDb y18), g < hs18 := fun g hg => hr18 g (by first | (rw [ids_agg]; exact hg) | (simpa only [V.ids, idsL_cS] using hg))
        simp at hn18
        have e18 : wtTDb y18 = wtTDb b := by rw [wtTDb_pl, wtTDb_pl, p18]
        simp [s3_14, s3_16, cDb, cDisk, cS, cI, cS]
        repeat' apply And.intro
        all_goals
          refine call_some (u_impl_CommitDatabase y17 y18 n (hsz _ p17) k18) rfl (by simp) fun n19 hs19 r19 hn19 hm19 hp19 hr19 => ?_
          obtain ⟨h0, rfl, ph0, kh0, Gh0⟩ := hp19
          have uh0 : ∀ g ∈ idsL (cDisk h0), g < hs19 := fun g hg => hr19 g (by simp only [V.ids, idsVL, ids_agg, idsVL_map_d, idsL_cS, List.mem_append] at hg ⊢; simp [hg])
          have lh0 := Gh0.lo
          simp only [p17] at ph0
          simp only [p18] at ph0
          simp at hn19
          simp [s3_14, s3_16, cDb, cDisk, cS, cI, cS, p17, p18]
          exact hK h0 _ ⟨ph0, kh0⟩ rfl rfl (by simp <;> omega) (by simp [cDb, cDisk, cS, cI, cS, mkTDb, mkTDisk, mkTReln, mkTTab, p17, p18]) (by simp [cDb, cDisk, cS, cI, cS, mkTDb, mkTDisk, mkTReln, mkTTab])
  intro h0 hsh th mh hh hhh
  obtain ⟨ph0, kh0⟩ := hh
  simp [s3_14, s3_16, cDb, cDisk, cS, cI, cS, mkTDb, mkTDisk, mkTReln, mkTTab]
  refine call_pure (w_laws_eqDisk h0 w0 kh0) rfl (by simp) rfl fun hs20 hh20 => ?_
  simp at hh20
  simp [s3_14, s3_16, cDb, cDisk, cS, cI, cS, ph0, pw0]
  refine call_pure (w_laws_heldDisk (mkTDisk g0 (1)) (1) (by omega) (by rw [marksTDisk.wt]; omega) (ok_mkTDisk _ _ kg0)) rfl (by simp) rfl fun hs21 hh21 => ?_
  simp at hh21
  rw [marksTDisk.hl, marksTDisk.wt]
  simp [show ¬ (1 + wtTDisk g0 : Int) < 0 by omega]

end Go.Proofs.Yteoeondjpgpiaaa
