/-
  BK2B2: a part of a proof of this seat: the value-level semantics of Go code without maps, its walk rules, the frame of a row, facts of types, schedules, walks, plain lemmas (LK2). It holds of every program and state that its hypotheses name.
-/
import Derived.Test.YtimjeofhffkajaaBK2B1
set_option linter.unusedSimpArgs false
set_option linter.unusedVariables false
set_option linter.unnecessarySimpa false
namespace Go.Proofs.Ytimjeofhffkajaa
open Go.Vs Go.Proofs Go
set_option maxRecDepth 100000
set_option maxHeartbeats 1000000

theorem all_any (l : List Int) : (l.all fun n => decide (0 ≤ n)) = !(l.any fun n => decide (n < 0)) := by
  induction l with
  | nil => rfl
  | cons x r ih =>
    rw [List.all_cons, List.any_cons, ih, Bool.not_or]
    congr 1
    by_cases h : x < 0
    · simp [h]
    · simp [h]; omega
section
attribute [local simp] plI_id plStr_id map_plI map_plStr pS cP cI cW dSl
theorem w_laws_FnCountedProjection (b : Sl Int) :
   VC Try.prog 4 [.d (dSl cW b)] (fun _ r => r = .d (.bool true)) := by
  refine VC.of E s4 (by kernel_rfl) Try.func4 (by rfl) (by kernel_rfl) (by simp [Try.f4]) (by simp [Try.f4]) s4_ok fun B => ?_
  simp [Try.f4, ]
  refine call_pure (w_laws_big b) rfl (by simp) rfl fun hz zz => ?_
  simp at zz
  by_cases hb : (1048576 : Int) < b.xs.length
  · simp [hb]
  simp [hb, ]
  refine call_some (w_spec_DrawProjectCounted b (by omega)) rfl (by simp) fun n1 hs1 r1 hn1 hm1 hp1 hr1 => ?_
  obtain ⟨⟨xa, xr, xc⟩, ⟨cid, cT, cols⟩, rfl, kx, kc, lx, lc⟩ := hp1
  simp only at lc
  simp at hn1
  obtain ⟨A, hA⟩ : ∃ A, A = plCnt ⟨xa, xr, xc⟩ := ⟨_, rfl⟩
  have eA : ∀ m, rpL m [V.agg [V.d (.int .i64 xa), V.d (.sl xr.id xr.T (xr.xs.map (cS cI))), V.d (.sl xc.id xc.T (xc.xs.map cI))]] = some [.agg ((eCnt A).map V.d)] := fun m => by rw [hA]; simp [eCnt, plCnt, plS, plI, erI, erLL_map (er_cS er_cI)]
  simp [cCnt, cS, ]
  refine call_some (t_impl_ProjectCounted ⟨xa, xr, xc⟩ ⟨cid, cT, cols⟩ kx kc) (by simp [cCnt, cS]) (by simp [cCnt, cS]) fun n2 hs2 r2 hn2 hm2 hp2 hr2 => ?_
  obtain ⟨⟨pa, pr, pc⟩, rfl, ps, kp, _⟩ := hp2
  have ecols : plS plI (⟨cid, cT, cols⟩ : Sl Int) = cols := by simp [plS]
  rw [← hA, ecols] at ps
  rw [← hA, ecols]
  simp at hn2
  simp [cCnt, cS, ]
  refine call_p (w_spec_ProjectCounted A cols (by omega)) (by rw [hA]; simp [eCnt, plCnt, plS, plI, erI, erLL_map (er_cS er_cI)]) fun hs4 hh4 hl4 => ?_
  obtain ⟨W, hW⟩ : ∃ W, W = projP A cols := ⟨_, rfl⟩
  rw [← hW] at ps hl4 ⊢
  obtain ⟨Wa, Wr, Wc⟩ := W
  simp at hh4
  simp [cCnt, cS, eCnt, ]
  refine call_f (VC.to (w_spec_EqualCounted (plCnt ⟨pa, pr, pc⟩) ⟨Wa, Wr, Wc⟩) (show _ = V.d (.bool true) by rw [ps]; simp)) (by simp [eCnt, plCnt, plS, plI, erI, erLL_map (er_cS er_cI)]) rfl fun hs5 hh5 => ?_
  simp at hh5
  cases hB : projB A cols
  · simp [cCnt, cS, eCnt, ]
  have hA1 : cntsOk A = true := by simp only [projB, Bool.and_eq_true] at hB; exact hB.1.1
  have hAr := rowsOk_row (by simp only [cntsOk, Bool.and_eq_true] at hA1; exact hA1.1.2)
  have hxr : ∀ r ∈ xr.xs, r.xs.length ≤ 4294967296 := fun r hr => by
    have := hAr r.xs (by rw [hA]; simp only [plCnt, plS]; exact List.mem_map.2 ⟨r, hr, by simp [plS]⟩)
    omega
  simp [cCnt, cS, eCnt, ]
  refine call_some (t_impl_NegateCounted ⟨xa, xr, xc⟩ kx (by simp only at lx ⊢; omega) hxr (by simp only at lx ⊢; omega)) (by simp [cCnt, cS]) (by simp [cCnt, cS]) fun n8 hs8 r8 hn8 hm8 hp8 hr8 => ?_
  obtain ⟨⟨va, vr, vc⟩, rfl, pv, kv, _⟩ := hp8
  rw [← hA, negW_eq hA1] at pv
  simp at hn8
  simp [cCnt, cS, eCnt, ]
  refine call_some (t_impl_ProjectCounted ⟨va, vr, vc⟩ ⟨cid, cT, cols⟩ kv kc) (by simp [cCnt, cS]) (by simp [cCnt, cS]) fun n9 hs9 r9 hn9 hm9 hp9 hr9 => ?_
  obtain ⟨⟨na, nr, nc⟩, rfl, pn, kn, _⟩ := hp9
  rw [pv, ecols, (proj_neg A cols hB).2, ← hW] at pn
  simp at hn9
  simp [cCnt, cS, eCnt, ]
  have hxcs : A.cs = xc.xs := by rw [hA]; simp [plCnt, plS]
  have hpcs : pc.xs = Wc := by have := congrArg PCnt.cs ps; simpa [plCnt, plS] using this
  have hW1 : cntsOk ⟨Wa, Wr, Wc⟩ = true := by rw [hW]; exact projP_ok hB
  have hbx : ∀ n ∈ xc.xs, -1000000 ≤ n ∧ n ≤ 1000000 := fun n hn => cnt_bd hA1 n (by rw [hxcs]; exact hn)
  have hbp : ∀ n ∈ pc.xs, -1000000 ≤ n ∧ n ≤ 1000000 := fun n hn => cnt_bd hW1 n (by rw [← hpcs]; exact hn)
  have hlx : xc.xs.length ≤ 2000 := lx.2
  have hlp : pc.xs.length ≤ 4000 := by
    have h1 := cntsOk_len hW1
    have h2 := hW1
    simp only [cntsOk, Bool.and_eq_true] at h2
    have h3 := rowsOk_len h2.1.2
    rw [hpcs]
    simp only at h1
    omega
  have htot : pc.xs.sum = xc.xs.sum := by
    have := proj_tot hB
    rw [← hW, hxcs] at this
    rw [hpcs]; exact this
  have bx : ∀ i, -2000000000 ≤ (xc.xs.take i).sum ∧ (xc.xs.take i).sum ≤ 2000000000 := fun i => by
    have h2 : (xc.xs.take i).length ≤ 2000 := by rw [List.length_take]; omega
    have h3 := sum_bd (l := xc.xs.take i) (M := 1000000) (by omega) fun n hn => hbx n (List.mem_of_mem_take hn)
    omega
  have bp : ∀ i, -4000000000 ≤ (pc.xs.take i).sum ∧ (pc.xs.take i).sum ≤ 4000000000 := fun i => by
    have h2 : (pc.xs.take i).length ≤ 4000 := by rw [List.length_take]; omega
    have h3 := sum_bd (l := pc.xs.take i) (M := 1000000) (by omega) fun n hn => hbp n (List.mem_of_mem_take hn)
    omega
  have bxa : -2000000000 ≤ xc.xs.sum ∧ xc.xs.sum ≤ 2000000000 := by
    have := bx xc.xs.length
    rwa [List.take_length] at this
  refine loop_rule (X := Nat) (fun i => i ≤ xc.xs.length) (fun i => [(3, .ptr 3 0 0), (5, .ptr 5 0 0), (9, .ptr 9 0 0), (11, .d (.int .i64 (xc.xs.take i).sum)), (12, .d (.int .i64 i))]) (fun _ => [(3, some (.box ((cCnt ⟨xa, xr, xc⟩).map V.d))), (5, some (.box ((cCnt ⟨pa, pr, pc⟩).map V.d))), (9, some (.box ((cCnt ⟨na, nr, nc⟩).map V.d)))]) (fun i => xc.xs.length - i) 0 (by simp) (by simp) (by simp [cCnt, cS]) ?_
  intro i hs t m hi hh
  by_cases hlt : i < xc.xs.length
  · have hwi := wr1 (i := i) (by omega)
    have hw : IntKind.i64.wrap ((xc.xs.take i).sum + xc.xs[i]) = (xc.xs.take (i + 1)).sum := by
      rw [← sum_take hlt]; exact wrap64_of (by have := bx (i + 1); omega) (by have := bx (i + 1); omega)
    refine anyQ fun Q => ?_
    simp [cCnt, cS, hlt, hw, hwi, ]
    exact back (i + 1) (by omega) (by omega) rfl (by simp <;> omega) (by simp) (by simp [cCnt, cS])
  have hn : i = xc.xs.length := by omega
  subst hn
  clear hn1 hm1 hr1 hn2 hm2 hr2 hl4 hn8 hm8 hr8 hn9 hm9 hr9 hi hh
  simp [cCnt, cS, ]
  refine loop_rule (X := Nat) (fun i => i ≤ pc.xs.length) (fun i => [(3, .ptr 3 0 0), (5, .ptr 5 0 0), (9, .ptr 9 0 0), (11, .d (.int .i64 (xc.xs.sum - (pc.xs.take i).sum))), (13, .d (.int .i64 i))]) (fun _ => [(3, some (.box ((cCnt ⟨xa, xr, xc⟩).map V.d))), (5, some (.box ((cCnt ⟨pa, pr, pc⟩).map V.d))), (9, some (.box ((cCnt ⟨na, nr, nc⟩).map V.d)))]) (fun i => pc.xs.length - i) 0 (by simp) (by simp) (by simp [cCnt, cS]) ?_
  intro i hs t m hi hh
  by_cases hlt : i < pc.xs.length
  · have hwi := wr1 (i := i) (by omega)
    have hw : IntKind.i64.wrap (xc.xs.sum - (pc.xs.take i).sum - pc.xs[i]) = xc.xs.sum - (pc.xs.take (i + 1)).sum := by
      have e : xc.xs.sum - (pc.xs.take i).sum - pc.xs[i] = xc.xs.sum - (pc.xs.take (i + 1)).sum := by rw [sum_take hlt]; omega
      rw [e]; exact wrap64_of (by have := bp (i + 1); omega) (by have := bp (i + 1); omega)
    refine anyQ fun Q => ?_
    simp [cCnt, cS, hlt, hw, hwi, ]
    exact back (i + 1) (by omega) (by omega) rfl (by simp <;> omega) (by simp) (by simp [cCnt, cS])
  have hn : i = pc.xs.length := by omega
  subst hn
  simp [cCnt, cS, htot, ]
  refine call_some (t_impl_RowsOfCounted ⟨xa, xr, xc⟩ kx) (by simp [cCnt, cS]) (by simp [cCnt, cS]) fun n10 hs10 r10 hn10 hm10 hp10 hr10 => ?_
  obtain ⟨⟨ra, rr⟩, rfl, pr', kr, _⟩ := hp10
  rw [← hA] at pr'
  rw [← hA]
  simp at hn10
  clear hi hh hr10
  simp [cReln, cCnt, cS, ]
  refine loop_rule (X := Nat) (fun i => i ≤ xc.xs.length) (fun i => [(3, .ptr 3 0 0), (5, .ptr 5 0 0), (9, .ptr 9 0 0), (11, .d (.int .i64 0)), (14, .ptr 14 0 0), (15, .d (.bool (rowsOfB A))), (16, .d (.bool ((xc.xs.take i).any fun n => decide (n < 0)))), (17, .d (.int .i64 i))]) (fun _ => [(3, some (.box ((cCnt ⟨xa, xr, xc⟩).map V.d))), (5, some (.box ((cCnt ⟨pa, pr, pc⟩).map V.d))), (9, some (.box ((cCnt ⟨na, nr, nc⟩).map V.d))), (14, some (.box ((cReln ⟨ra, rr⟩).map V.d)))]) (fun i => xc.xs.length - i) 0 (by simp) (by simp) (by simp [cReln, cCnt, cS]) ?_
  intro i hs t m hi hh
  by_cases hlt : i < xc.xs.length
  · have hwi := wr1 (i := i) (by omega)
    refine anyQ fun Q => ?_
    cases ha : (xc.xs.take i).any fun n => decide (n < 0)
    · simp [cReln, cCnt, cS, hlt, hwi, ]
      refine back (i + 1) (by omega) (by omega) rfl (by simp <;> omega) ?_ (by simp [cReln, cCnt, cS])
      rw [List.take_succ_eq_append_getElem hlt, List.any_append, ha]
      simp
    · simp [cReln, cCnt, cS, hlt, hwi, ]
      refine back (i + 1) (by omega) (by omega) rfl (by simp <;> omega) ?_ (by simp [cReln, cCnt, cS])
      rw [List.take_succ_eq_append_getElem hlt, List.any_append, ha]
      simp
  have hn : i = xc.xs.length := by omega
  subst hn
  simp [cReln, cCnt, cS, ]
  have hrB : rowsOfB A = !(xc.xs.any fun n => decide (n < 0)) := by
    rw [rowsOfB, hA1, hxcs, Bool.true_and, all_any]
  have hWr := rowsOk_row (by have h := hW1; simp only [cntsOk, Bool.and_eq_true] at h; exact h.1.2)
  have hWl : Wr.length ≤ 4000 := by
    have h2 := hW1
    simp only [cntsOk, Bool.and_eq_true] at h2
    exact rowsOk_len h2.1.2
  have hprs : plS (plS plI) pr = Wr := congrArg PCnt.rows ps
  have hpl : pr.xs.length ≤ 4294967296 := by
    have := congrArg List.length hprs
    simp only [plS, List.length_map] at this
    omega
  have hpr : ∀ r ∈ pr.xs, r.xs.length ≤ 4294967296 := fun r hr => by
    have := hWr r.xs (by rw [← hprs]; simp only [plS]; exact List.mem_map.2 ⟨r, hr, by simp [plS]⟩)
    omega
  refine forgetT [(3, .ptr 3 0 0), (5, .ptr 5 0 0), (9, .ptr 9 0 0), (11, .d (.int .i64 0)), (14, .ptr 14 0 0), (15, .d (.bool (rowsOfB A))), (16, .d (.bool (xc.xs.any fun n => decide (n < 0))))] [(3, some (.box ((cCnt ⟨xa, xr, xc⟩).map V.d))), (5, some (.box ((cCnt ⟨pa, pr, pc⟩).map V.d))), (9, some (.box ((cCnt ⟨na, nr, nc⟩).map V.d))), (14, some (.box ((cReln ⟨ra, rr⟩).map V.d)))] (by simp) (by simp [cReln, cCnt, cS]) fun t m => ?_
  simp [cReln, cCnt, cS, s4_26, ]
  repeat' apply And.intro
  all_goals
    refine call_some (t_impl_NegateCounted ⟨pa, pr, pc⟩ kp hpl hpr (by simp only; omega)) (by simp [cCnt, cS]) (by simp [cCnt, cS]) fun n11 hs11 r11 hn11 hm11 hp11 hr11 => ?_
    obtain ⟨⟨qa, qr, qc⟩, rfl, pq, kq, _⟩ := hp11
    rw [ps, negW_eq hW1] at pq
    simp at hn11
    simp [cReln, cCnt, cS, s4_26, ]
    refine call_f (VC.to (w_spec_EqualCounted (plCnt ⟨na, nr, nc⟩) (plCnt ⟨qa, qr, qc⟩)) (show _ = V.d (.bool true) by rw [pn, pq]; simp)) (by simp [eCnt, plCnt, plS, plI, erI, erLL_map (er_cS er_cI)]) rfl fun hs12 hh12 => ?_
    simp at hh12
    cases hng : xc.xs.any fun n => decide (n < 0)
    · replace hrB : rowsOfB A = true := by rw [hrB, hng]; rfl
      have hro : plReln ⟨ra, rr⟩ = ⟨xa, plS (plS plI) xr⟩ := by
        rw [pr', rowsOf, if_pos hrB, hA]
        simp [plCnt]
      simp [cReln, cCnt, cS, hrB, s4_26, ]
      repeat' apply And.intro
      all_goals
        refine call_f (VC.to (w_spec_EqualRelations (plReln ⟨ra, rr⟩) ⟨xa, plS (plS plI) xr⟩) (show _ = V.d (.bool true) by rw [hro]; simp)) (by simp [eReln, plReln, plS, plI, erI, erLL_map (er_cS er_cI)]) rfl fun hs13 hh13 => ?_
        simp at hh13
        simp [cReln, cCnt, cS, s4_26, ]
    · replace hrB : rowsOfB A = false := by rw [hrB, hng]; rfl
      simp [cReln, cCnt, cS, hrB, s4_26, ]
end

end Go.Proofs.Ytimjeofhffkajaa
